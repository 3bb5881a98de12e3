/- Sync, loop by loop: what is so far told, and what the rows are; plain. A region that draws its order, where one operation of the head turns the condition. mail.clone: walked. IndexFunc with mail's closures: walked. mail.home, opened, seat, at, Find: walked. Rows of which the end is cleared. Loads and stores of many cells at once. mail.New, and the document's: walked. -/
import Derived.Test.YtcnebfmlelcliaaB04
import Derived.Test.YtcnebfmlelcliaaB01
import Derived.Laws.EntriesVeiled
import Derived.Lib.SliceRun
namespace Go.Proofs.Ytcnebfmlelcliaa
open Go.RowKit
theorem lettI_zero : ∀ {rows : List LtV} {u : Nat}, lettI rows u = 0 → modAt (rows.map ltRow) u = none
  | [], _, _ => rfl
  | r :: l, u, h => by
    unfold lettI at h
    split at h
    · cases h
    · rename_i hne
      have h2 : lettI l u = 0 := by
        cases hl : lettI l u with
        | zero => rfl
        | succ n => rw [hl] at h; cases h
      have := lettI_zero h2
      unfold modAt at this ⊢
      have e : ((ltRow r).1 == u) = false := beq_eq_false_iff_ne.2 hne
      simp only [List.map_cons, List.find?, e]
      exact this
theorem lettI_succ : ∀ {rows : List LtV} {u k : Nat}, lettI rows u = k + 1 → ∃ hk : k < rows.length, rows[k].x.uid = u ∧ modAt (rows.map ltRow) u = some rows[k].x.mod
  | r :: l, u, k, h => by
    unfold lettI at h
    split at h
    · rename_i he
      have : k = 0 := by omega
      subst this
      refine ⟨by simp, he, ?_⟩
      unfold modAt
      have e : ((ltRow r).1 == u) = true := beq_iff_eq.2 he
      simp only [List.map_cons, List.find?, e]
      rfl
    · rename_i hne
      cases hl : lettI l u with
      | zero => rw [hl] at h; cases h
      | succ n =>
        rw [hl] at h
        have : k = n + 1 := by simpa using h.symm
        subst this
        obtain ⟨h1, h2, h3⟩ := lettI_succ hl
        refine ⟨by simpa using h1, h2, ?_⟩
        unfold modAt at h3 ⊢
        have e : ((ltRow r).1 == u) = false := beq_eq_false_iff_ne.2 hne
        simp only [List.map_cons, List.find?, e]
        exact h3
theorem expR_step (l b : List (Nat × Nat)) (k : Nat) : expR l b (k + 1) = if (modAt b (l[k]?.getD (0, 0)).1).isSome then expR l b k else (9, k + 1) :: expR l b k := rfl
theorem expR_len (l b : List (Nat × Nat)) : ∀ k, (expR l b k).length ≤ k
  | 0 => Nat.le_refl _
  | k + 1 => by
    have := expR_len l b k
    unfold expR
    split
    · omega
    · rw [List.length_cons]; omega
/-- the loop of the expunges, with k rows to go -/
structure ExpI (l b : List (Nat × Nat)) (k : Nat) (cur : List (Nat × Nat)) (rps : List Rp) : Prop where
  cur : cur = l.take k ++ (l.drop k).filter (fun r => (modAt b r.1).isSome)
  say : rps.map Rp.say ++ expR l b k = expR l b l.length
theorem ExpI.start (l b : List (Nat × Nat)) : ExpI l b l.length l [] := ⟨by simp, rfl⟩
theorem ExpI.yes {l b cur : List (Nat × Nat)} {k : Nat} {rps : List Rp} (h : ExpI l b (k + 1) cur rps) (hk : k < l.length) (hs : (modAt b l[k].1).isSome = true) : ExpI l b k cur rps := by
  refine ⟨?_, ?_⟩
  · rw [h.cur, List.take_succ_eq_append_getElem hk, List.drop_eq_getElem_cons hk, List.filter_cons_of_pos (by simpa using hs), List.append_assoc]; rfl
  · have := h.say
    have hg : l[k]?.getD (0, 0) = l[k] := by rw [List.getElem?_eq_getElem hk]; rfl
    rw [expR_step, hg, if_pos hs] at this
    exact this
theorem ExpI.no {l b cur : List (Nat × Nat)} {k : Nat} {rps : List Rp} (h : ExpI l b (k + 1) cur rps) (hk : k < l.length) (hs : ¬ (modAt b l[k].1).isSome = true) (y : Rp) (hy : y.say = (9, k + 1)) : ExpI l b k (cur.take k ++ cur.drop (k + 1)) (rps ++ [y]) := by
  have hl1 : (l.take (k + 1)).length = k + 1 := by rw [List.length_take]; omega
  refine ⟨?_, ?_⟩
  · rw [h.cur, List.drop_left' hl1, List.take_append_of_le_length (by omega), List.take_take, Nat.min_eq_left (Nat.le_succ k), List.drop_eq_getElem_cons hk, List.filter_cons_of_neg (by simpa using hs)]
  · have := h.say
    have hg : l[k]?.getD (0, 0) = l[k] := by rw [List.getElem?_eq_getElem hk]; rfl
    rw [expR_step, hg, if_neg hs] at this
    rw [List.map_append, List.append_assoc, ← this]
    simp [hy]
theorem ExpI.lens {l b cur : List (Nat × Nat)} {k : Nat} {rps : List Rp} (h : ExpI l b k cur rps) (hk : k ≤ l.length) : k ≤ cur.length ∧ cur.length ≤ l.length ∧ rps.length ≤ l.length := by
  have h1 : (l.take k).length = k := by rw [List.length_take]; omega
  have h2 := List.length_filter_le (fun r : Nat × Nat => (modAt b r.1).isSome) (l.drop k)
  rw [List.length_drop] at h2
  have h3 := congrArg List.length h.say
  rw [List.length_append, List.length_map] at h3
  have h4 := expR_len l b l.length
  rw [h.cur, List.length_append, h1]
  omega
theorem ExpI.at_ {l b cur : List (Nat × Nat)} {k : Nat} {rps : List Rp} (h : ExpI l b (k + 1) cur rps) (hk : k < l.length) : ∃ hc : k < cur.length, cur[k] = l[k] := by
  have hc : k < cur.length := by have := (h.lens hk).1; omega
  refine ⟨hc, ?_⟩
  have h1 : (l.take (k + 1)).length = k + 1 := by rw [List.length_take]; omega
  have := h.cur
  subst this
  rw [List.getElem_append_left (by omega), List.getElem_take]
theorem ExpI.done {l b cur : List (Nat × Nat)} {rps : List Rp} (h : ExpI l b 0 cur rps) : cur = keptL l b true ∧ rps.map Rp.say = expR l b l.length := by
  refine ⟨?_, ?_⟩
  · have := h.cur; simpa [keptL] using this
  · have := h.say; rwa [show expR l b 0 = [] from rfl, List.append_nil] at this
theorem ExpI.none {l b cur : List (Nat × Nat)} {rps : List Rp} (h : ExpI l b l.length cur rps) : cur = keptL l b false ∧ rps.map Rp.say = [] := by
  refine ⟨?_, ?_⟩
  · have := h.cur; simpa [keptL] using this
  · have := h.say
    have h2 := congrArg List.length this
    rw [List.length_append] at h2
    exact List.eq_nil_of_length_eq_zero (by omega)
/-- the loop of the new letters, q of them looked at -/
def NewI (kept b : List (Nat × Nat)) (q : Nat) (cur : List (Nat × Nat)) : Prop := cur = kept ++ (b.take q).filter (fun x => decide (mostL kept < x.1))
theorem NewI.start (kept b : List (Nat × Nat)) : NewI kept b 0 kept := by simp [NewI]
theorem NewI.yes {kept b cur : List (Nat × Nat)} {q : Nat} (h : NewI kept b q cur) (hq : q < b.length) (hm : mostL kept < b[q].1) : NewI kept b (q + 1) (cur ++ [b[q]]) := by
  unfold NewI at h ⊢
  rw [h, List.take_succ_eq_append_getElem hq, List.filter_append, List.append_assoc]
  have e : [b[q]].filter (fun x => decide (mostL kept < x.1)) = [b[q]] := List.filter_cons_of_pos (p := fun x : Nat × Nat => decide (mostL kept < x.1)) (by simpa using hm)
  rw [e]
theorem NewI.no {kept b cur : List (Nat × Nat)} {q : Nat} (h : NewI kept b q cur) (hq : q < b.length) (hm : ¬ mostL kept < b[q].1) : NewI kept b (q + 1) cur := by
  unfold NewI at h ⊢
  have e : [b[q]].filter (fun x => decide (mostL kept < x.1)) = [] := List.filter_cons_of_neg (p := fun x : Nat × Nat => decide (mostL kept < x.1)) (by simpa using hm)
  rw [h, List.take_succ_eq_append_getElem hq, List.filter_append, e, List.append_nil]
theorem NewI.done {kept b cur : List (Nat × Nat)} (h : NewI kept b b.length cur) : cur = kept ++ newsL kept b := by unfold NewI at h; rwa [List.take_length] at h
theorem NewI.lens {kept b cur : List (Nat × Nat)} {q : Nat} (h : NewI kept b q cur) : cur.length ≤ kept.length + b.length := by
  have h2 := List.length_filter_le (fun x : Nat × Nat => decide (mostL kept < x.1)) (b.take q)
  rw [List.length_take] at h2
  unfold NewI at h
  rw [h, List.length_append]; omega
/-- the loop of the fetches, q rows looked at -/
structure FetI (kept b news T : List (Nat × Nat)) (q : Nat) (cur : List (Nat × Nat)) (rps : List Rp) : Prop where
  cur : cur = (kept.take q).map (turnR b) ++ (kept.drop q ++ news)
  say : rps.map Rp.say ++ fetR b (kept.drop q) q = T
theorem FetI.still {kept b news T cur : List (Nat × Nat)} {q : Nat} {rps : List Rp} (h : FetI kept b news T q cur rps) (hq : q < kept.length) (hs : turnR b kept[q] = kept[q]) : FetI kept b news T (q + 1) cur rps := by
  refine ⟨?_, ?_⟩
  · rw [h.cur, List.take_succ_eq_append_getElem hq, List.map_append, List.drop_eq_getElem_cons hq, List.map_singleton, hs]
    simp only [List.cons_append, List.append_assoc, List.nil_append]
  · have := h.say
    rw [List.drop_eq_getElem_cons hq] at this
    unfold fetR at this
    rwa [if_pos hs] at this
theorem FetI.turn {kept b news T cur : List (Nat × Nat)} {q : Nat} {rps : List Rp} (h : FetI kept b news T q cur rps) (hq : q < kept.length) (hs : turnR b kept[q] ≠ kept[q]) (y : Rp) (hy : y.say = (14, q + 1)) : FetI kept b news T (q + 1) (cur.set q (turnR b kept[q])) (rps ++ [y]) := by
  have hl : ((kept.take q).map (turnR b)).length = q := by rw [List.length_map, List.length_take]; omega
  refine ⟨?_, ?_⟩
  · rw [h.cur, List.set_append_right _ _ (by omega), hl, Nat.sub_self, List.take_succ_eq_append_getElem hq, List.map_append, List.append_assoc, List.map_singleton]
    congr 1
    rw [List.drop_eq_getElem_cons hq]
    rfl
  · have := h.say
    rw [List.drop_eq_getElem_cons hq] at this
    unfold fetR at this
    rw [if_neg hs] at this
    rw [List.map_append, List.append_assoc, ← this]
    simp [hy]
theorem FetI.at_ {kept b news T cur : List (Nat × Nat)} {q : Nat} {rps : List Rp} (h : FetI kept b news T q cur rps) (hq : q < kept.length) : ∃ hc : q < cur.length, cur[q] = kept[q] := by
  have hl : ((kept.take q).map (turnR b)).length = q := by rw [List.length_map, List.length_take]; omega
  have hc : q < cur.length := by rw [h.cur, List.length_append, List.length_append, hl, List.length_drop]; omega
  refine ⟨hc, ?_⟩
  have := h.cur
  subst this
  rw [List.getElem_append_right (by omega), List.getElem_append_left (by rw [List.length_drop]; omega)]
  simp only [hl, List.getElem_drop, Nat.sub_self, Nat.add_zero]
theorem fetR_len (b : List (Nat × Nat)) : ∀ (l : List (Nat × Nat)) (k : Nat), (fetR b l k).length ≤ l.length
  | [], _ => Nat.le_refl _
  | r :: t, k => by
    have := fetR_len b t (k + 1)
    unfold fetR
    split
    · rw [List.length_cons]; omega
    · rw [List.length_cons, List.length_cons]; omega
theorem FetI.done {kept b news T cur : List (Nat × Nat)} {rps : List Rp} (h : FetI kept b news T kept.length cur rps) : cur = kept.map (turnR b) ++ news ∧ rps.map Rp.say = T := by
  refine ⟨?_, ?_⟩
  · have := h.cur; simpa using this
  · have := h.say; rw [List.drop_length] at this; unfold fetR at this; rwa [List.append_nil] at this
theorem FetI.lens {kept b news T cur : List (Nat × Nat)} {q : Nat} {rps : List Rp} (h : FetI kept b news T q cur rps) : rps.length ≤ T.length ∧ cur.length = kept.length + news.length := by
  have h3 := congrArg List.length h.say
  rw [List.length_append, List.length_map] at h3
  refine ⟨by omega, ?_⟩
  rw [h.cur, List.length_append, List.length_append, List.length_map, List.length_take, List.length_drop]; omega
theorem turnR_none {b : List (Nat × Nat)} {r : Nat × Nat} (h : modAt b r.1 = none) : turnR b r = r := by unfold turnR; rw [h]
theorem turnR_some {b : List (Nat × Nat)} {r : Nat × Nat} {m : Nat} (h : modAt b r.1 = some m) : turnR b r = (r.1, m) := by unfold turnR; rw [h]
theorem keptL_len (l b : List (Nat × Nat)) (e : Bool) : (keptL l b e).length ≤ l.length := by
  unfold keptL
  split
  · exact List.length_filter_le _ _
  · exact Nat.le_refl _
theorem newsL_len (l b : List (Nat × Nat)) : (newsL l b).length ≤ b.length := List.length_filter_le _ _
theorem tellR_len (l b : List (Nat × Nat)) (e : Bool) : (tellR l b e).length ≤ l.length + 1 + l.length := by
  have h1 := keptL_len l b e
  have h2 := fetR_len b (keptL l b e) 0
  have h3 := expR_len l b l.length
  unfold tellR
  rw [List.length_append, List.length_append]
  have h4 : (if e then expR l b l.length else []).length ≤ l.length := by
    split
    · exact h3
    · simp
  have h5 : (if newsL (keptL l b e) b = [] then [] else [(8, (keptL l b e).length + (newsL (keptL l b e) b).length)]).length ≤ 1 := by
    split <;> simp
  omega
/-- what of a value counts here -/
structure Vl where
  kind : Nat
  n : Nat
  a : Option Addr
  l : Nat
  c : Nat
def vlCells (y : Vl) : List Value := [.int .i64 y.kind, .int .u64 y.n, .slice y.a y.l y.c, .string ⟨#[]⟩, .bool false, .int .u64 0]
def vlT : RT Vl where
  enc := vlCells
  K := 6
  t := 85
  ts := 59
  z := .agg #[.int .i64 0, .int .u64 0, .slice none 0 0, .string ⟨#[]⟩, .bool false, .int .u64 0]
  bytes := 72
  len := fun _ => rfl
  one := fun x u hu => by simp [vlCells] at hu; rcases hu with rfl | rfl | rfl | rfl | rfl | rfl <;> rfl
  pos := by decide
  und := Try.underlying59
  info := by kernel_rfl
  zs := rfl
  bb := by decide
/-- what Sync hands back where the mailbox is the view's -/
def SyncRet (W : World) (s : ByteArray) (val : Nat) (l b : List (Nat × Nat)) (expunge : Bool) (e : Ending) (w' : World) : Prop :=
  ∃ (vr vo : Value) (rps : List Rp), e = .returned (.tuple #[.agg #[.string s, .int .u64 val, vr], vo]) ∧ Hid (Zoo W w' [rpT.row vo rps, rowT.rowC vr (syncL l b expunge)]) ∧ Hid (rps.map Rp.say = tellR l b expunge)
end Go.Proofs.Ytcnebfmlelcliaa
namespace Go.Proofs.Ytcnebfmlelcliaa
set_option linter.unusedSimpArgs false
open Go.RowKit

/-- the tail waits for all the head, or there is none -/
def tailOk (md : Region.Mode) (ops : Array Oper) (n : Nat) : Bool := decide (ops.size ≤ n) || (Region.sinkB md ops n && chB md ops n)
theorem tail_waits2 {md : Region.Mode} {ops : Array Oper} {n : Nat} {listed : Array Bool} (hs : tailOk md ops n = true) (inv : HeadInv md ops n listed) {i : Nat} (hi : i < n) (hun : listed.getD i true = false) : ∀ t, n ≤ t → t ∉ Region.ready md ops listed := by
  unfold tailOk at hs
  simp only [Bool.or_eq_true, Bool.and_eq_true, decide_eq_true_eq] at hs
  rcases hs with hs | ⟨h1, h2⟩
  · intro t ht hr
    obtain ⟨_, ot, hot, _⟩ := mem_ready.1 hr
    have := (Array.getElem?_eq_some_iff.1 hot).1
    omega
  · exact tail_waits' h1 h2 inv _ i rfl hi hun
structure HdOkP (ops : Array Oper) (n : Nat) : Prop where
  sel : Region.noSelect ops = true
  tail : tailOk .any ops n = true
section
variable {P : Program} {ops : Array Oper} {Q : Exit → Act → World → Prop} {md : Region.Mode} {p : Nat} {S : Bool → World → Prop} {T : Array Bool → Act → World → Prop}
/-- where operation i may be met -/
def SAll (md : Region.Mode) (ops : Array Oper) (n i p : Nat) (S : Bool → World → Prop) : World → Prop := fun w => ∃ l : Array Bool, HeadInv md ops n l ∧ l.getD i true = false ∧ S (l.getD p false) w
/-- an operation that number p waits for is met ahead of p -/
theorem SAll.early {n i : Nat} {w : World} (h : SAll md ops n i p S w) (hw : Region.waitsFor md ops p i = true) : S false w := by
  obtain ⟨l, inv, h0, hS⟩ := h
  cases hl : l.getD p false with
  | false => rw [hl] at hS; exact hS
  | true =>
    obtain ⟨o, ho, e, he, hb, hon⟩ := Region.waitsFor_spec hw
    have h2 := inv.closed p o ho hl e he hb
    rw [hon, getD_both h0] at h2
    cases h2
/-- whatever order is picked among the first n; S holds behind each; then T, and the last g follow in their order -/
def wpHdP (P : Program) (md : Region.Mode) (ops : Array Oper) (Q : Exit → Act → World → Prop) (p : Nat) (S : Bool → World → Prop) (n : Nat) (T : Array Bool → Act → World → Prop) : Nat → Array Bool → Act → World → Prop
  | 0, listed, a, w => lateB md ops n listed = true ∧ T listed a w
  | f + 1, listed, a, w => Region.ready md ops listed ≠ [] ∧ ∀ i ∈ Region.ready md ops listed, i < n ∧ wpOp P ops Q i (fun a' w' => S ((listed.setIfInBounds i true).getD p false) w' ∧ wpHdP P md ops Q p S n T f (listed.setIfInBounds i true) a' w') a w
theorem wpAny_of_hdP {n g : Nat} (hT : ∀ listed a w, T listed a w → wpAny P md ops Q g listed a w) :
    ∀ (f : Nat) (listed : Array Bool) (a : Act) (w : World), wpHdP P md ops Q p S n T f listed a w → wpAny P md ops Q (f + g) listed a w
  | 0, listed, a, w, h => by rw [Nat.zero_add]; exact hT _ _ _ h.2
  | f + 1, listed, a, w, h => by
    rw [show f + 1 + g = (f + g) + 1 by omega]
    exact ⟨fun h0 => absurd h0 h.1, fun i hi => wpOp_mono (fun a' w' h' => wpAny_of_hdP hT f _ a' w' h'.2) (h.2 i hi).2⟩
theorem wpHdP_first {n i : Nat} {oi : Oper} {v : Value} (hi : ops[i]? = some oi) (hsel : ∀ (j : Nat) (o : Oper) cs b, ops[j]? = some o → o.op ≠ .select cs b)
    (hQ : ∀ c a w, Q (.panic c) (a.put oi.dst v) w → Q (.panic c) a w)
    (hs : tailOk md ops n = true) (hin : i < n) :
    ∀ (f : Nat) (listed : Array Bool) (a : Act) (w : World), HeadInv md ops n listed →
      (∀ j oj, ops[j]? = some oj → j ≠ i → listed.getD j true = false → (∀ e ∈ oj.after, Region.binds md e = true → e.on ≠ i) → oi.apart ops oj = true) →
      i ∈ Region.ready md ops listed → i ≠ p → YieldsIf P ops (SAll md ops n i p S) oi v a → S (listed.getD p false) w →
      wpHdP P md ops Q p S n T f (listed.setIfInBounds i true) (a.put oi.dst v) w → wpHdP P md ops Q p S n T (f + 1) listed a w := by
  intro f
  induction f with
  | zero =>
    intro listed a w inv _ hr hip hy hS H
    have hun := (mem_ready.1 hr).1
    refine ⟨fun h => (by rw [h] at hr; cases hr), fun j hj => ?_⟩
    have hjn : j < n := by
      rcases Nat.lt_or_ge j n with h | h
      · exact h
      · exact absurd hj (tail_waits2 hs inv hin hun j h)
    refine ⟨hjn, ?_⟩
    by_cases hji : j = i
    · subst hji; exact hy.wpOp hi ⟨listed, inv, hun, hS⟩ ⟨by rw [getD_set_ne false hip]; exact hS, H⟩
    · have := lateB_spec H.1 j (ready_mono hj hji)
      omega
  | succ f ih =>
    intro listed a w inv hfree hr hip hy hS H
    have hun := (mem_ready.1 hr).1
    refine ⟨fun h => (by rw [h] at hr; cases hr), fun j hj => ?_⟩
    have hjn : j < n := by
      rcases Nat.lt_or_ge j n with h | h
      · exact h
      · exact absurd hj (tail_waits2 hs inv hin hun j h)
    refine ⟨hjn, ?_⟩
    by_cases hji : j = i
    · subst hji; exact hy.wpOp hi ⟨listed, inv, hun, hS⟩ ⟨by rw [getD_set_ne false hip]; exact hS, H⟩
    · have h1 := (H.2 j (ready_mono hj hji)).2
      obtain ⟨hjun, oj, hoj, hall⟩ := mem_ready.1 hj
      have hnot : ∀ e ∈ oj.after, Region.binds md e = true → e.on ≠ i := fun e he hb heq => by
        have h1 := hall e he hb
        rw [heq, getD_both hun] at h1
        cases h1
      have h2 := wpOp_putIf hoj (hfree j oj hoj hji hjun hnot) (fun cs b => hsel i oi cs b hi) (fun cs b => hsel j oj cs b hoj) hQ hy h1
      have hfree' : ∀ k ok, ops[k]? = some ok → k ≠ i → (listed.setIfInBounds j true).getD k true = false →
          (∀ e ∈ ok.after, Region.binds md e = true → e.on ≠ i) → oi.apart ops ok = true := fun k ok hk hki hun hno => by
        refine hfree k ok hk hki ?_ hno
        by_cases hjk : j = k
        · subst hjk; exact hjun
        · rw [getD_set_ne true hjk] at hun; exact hun
      have hSj : ∀ w', S (((listed.setIfInBounds i true).setIfInBounds j true).getD p false) w' → S ((listed.setIfInBounds j true).getD p false) w' := fun w' h => by rw [Array.setIfInBounds_comm _ _ (Ne.symm hji), getD_set_ne false hip] at h; exact h
      refine wpOp_mono (fun a' w' h3 => ⟨hSj _ h3.2.1, ih (listed.setIfInBounds j true) a' w' (inv.set hj hjn) hfree' (ready_mono hr (Ne.symm hji)) hip h3.1 (hSj _ h3.2.1) ?_⟩) h2
      rw [Array.setIfInBounds_comm _ _ hji]
      exact h3.2.2
/-- the goal of a walk by hand: the listed ones are closed -/
def HdP (P : Program) (ops : Array Oper) (Q : Exit → Act → World → Prop) (p : Nat) (S : Bool → World → Prop) (n : Nat) (T : Array Bool → Act → World → Prop) (f : Nat) (listed : Array Bool) (a : Act) (w : World) : Prop :=
  HeadInv .any ops n listed → wpHdP P .any ops Q p S n T f listed a w
/-- number i is taken first -/
theorem HdP.take {n i f : Nat} {oi : Oper} {v : Value} {listed : Array Bool} {a : Act} {w : World} (hok : HdOkP ops n) (hi : ops[i]? = some oi) (hb : (decide (i < n) && ((Region.ready .any ops listed).contains i && Region.free .any ops listed i)) = true)
    (hQ : ∀ c a w, Q (.panic c) (a.put oi.dst v) w → Q (.panic c) a w) (hip : i ≠ p) (hy : YieldsIf P ops (SAll .any ops n i p S) oi v a) (hS : S (listed.getD p false) w)
    (h : HdP P ops Q p S n T f (listed.setIfInBounds i true) (a.put oi.dst v) w) : HdP P ops Q p S n T (f + 1) listed a w := fun inv => by
  simp only [Bool.and_eq_true, decide_eq_true_eq] at hb
  have hr : i ∈ Region.ready .any ops listed := by simpa using hb.2.1
  exact wpHdP_first hi (Region.noSelect_spec hok.sel) hQ hok.tail hb.1 f listed a w inv (Region.free_spec hi hb.2.2) hr hip hy hS (h (inv.set hr hb.1))
/-- one alone may come up -/
theorem HdP.one {n i f : Nat} {oi : Oper} {listed : Array Bool} {a : Act} {w : World} (hi : ops[i]? = some oi) (hb : (decide (i < n) && (Region.ready .any ops listed == [i])) = true)
    (h : ∀ K' : Act → World → Prop, Shut (∀ a w, S ((listed.setIfInBounds i true).getD p false) w → HdP P ops Q p S n T f (listed.setIfInBounds i true) a w → K' a w) → if Region.wanted oi (yielded ops a.tmps) = true then Oper.wp P oi a w K' Q else K' (a.put oi.dst undef) w) : HdP P ops Q p S n T (f + 1) listed a w := fun inv => by
  simp only [Bool.and_eq_true, decide_eq_true_eq, beq_iff_eq] at hb
  have hr : i ∈ Region.ready .any ops listed := by rw [hb.2]; simp
  refine ⟨by rw [hb.2]; simp, fun j hj => ?_⟩
  rw [hb.2] at hj
  obtain rfl : j = i := by simpa using hj
  exact ⟨hb.1, wpOp_step hi (fun K' hK => h K' (fun a w hS hW => hK a w ⟨hS, hW (inv.set hr hb.1)⟩))⟩
/-- two may come up -/
theorem HdP.two {n i k f : Nat} {oi ok : Oper} {listed : Array Bool} {a : Act} {w : World} (hi : ops[i]? = some oi) (hk : ops[k]? = some ok) (hb : (decide (i < n) && (decide (k < n) && (Region.ready .any ops listed == [i, k]))) = true)
    (h : ∀ K' : Act → World → Prop, Shut (∀ a w, S ((listed.setIfInBounds i true).getD p false) w → HdP P ops Q p S n T f (listed.setIfInBounds i true) a w → K' a w) → if Region.wanted oi (yielded ops a.tmps) = true then Oper.wp P oi a w K' Q else K' (a.put oi.dst undef) w)
    (h2 : ∀ K' : Act → World → Prop, Shut (∀ a w, S ((listed.setIfInBounds k true).getD p false) w → HdP P ops Q p S n T f (listed.setIfInBounds k true) a w → K' a w) → if Region.wanted ok (yielded ops a.tmps) = true then Oper.wp P ok a w K' Q else K' (a.put ok.dst undef) w) : HdP P ops Q p S n T (f + 1) listed a w := fun inv => by
  simp only [Bool.and_eq_true, decide_eq_true_eq, beq_iff_eq] at hb
  have hri : i ∈ Region.ready .any ops listed := by rw [hb.2.2]; simp
  have hrk : k ∈ Region.ready .any ops listed := by rw [hb.2.2]; simp
  refine ⟨by rw [hb.2.2]; simp, fun j hj => ?_⟩
  rw [hb.2.2] at hj
  by_cases e : j = i
  · subst e
    exact ⟨hb.1, wpOp_step hi (fun K' hK => h K' (fun a w hS hW => hK a w ⟨hS, hW (inv.set hri hb.1)⟩))⟩
  · obtain rfl : j = k := by
      simp only [List.mem_cons, List.not_mem_nil, or_false] at hj
      rcases hj with h | h
      · exact absurd h e
      · exact h
    exact ⟨hb.2.1, wpOp_step hk (fun K' hK => h2 K' (fun a w hS hW => hK a w ⟨hS, hW (inv.set hrk hb.2.1)⟩))⟩
theorem HdP.fin {n : Nat} {listed : Array Bool} {a : Act} {w : World} (hb : lateB .any ops n listed = true) (h : HeadInv .any ops n listed → T listed a w) : HdP P ops Q p S n T 0 listed a w := fun inv => ⟨hb, h inv⟩
theorem HdP.done {n g : Nat} {l : List Oper} {listed : Array Bool} {a : Act} {w : World} (hb : (lateB .any ops n listed && Region.seqB .any ops g n listed) = true) (h : wpList P ops Q l a w) : HdP P ops Q p S n (TailT P ops Q n g l) 0 listed a w := fun _ => by
  rw [Bool.and_eq_true] at hb
  exact ⟨hb.1, hb.2, h⟩
end
section
variable {P : Program} {ops : Array Oper} {Q : Exit → Act → World → Prop} {S : World → Prop} {T : Array Bool → Act → World → Prop}
/-- three may come up -/
theorem Hd.three {n i k m f : Nat} {oi ok om : Oper} {listed : Array Bool} {a : Act} {w : World} (hi : ops[i]? = some oi) (hk : ops[k]? = some ok) (hm : ops[m]? = some om) (hb : (decide (i < n) && (decide (k < n) && (decide (m < n) && (Region.ready .any ops listed == [i, k, m])))) = true)
    (h : ∀ K' : Act → World → Prop, Shut (∀ a w, S w → Hd P ops Q S n T f (listed.setIfInBounds i true) a w → K' a w) → if Region.wanted oi (yielded ops a.tmps) = true then Oper.wp P oi a w K' Q else K' (a.put oi.dst undef) w)
    (h2 : ∀ K' : Act → World → Prop, Shut (∀ a w, S w → Hd P ops Q S n T f (listed.setIfInBounds k true) a w → K' a w) → if Region.wanted ok (yielded ops a.tmps) = true then Oper.wp P ok a w K' Q else K' (a.put ok.dst undef) w)
    (h3 : ∀ K' : Act → World → Prop, Shut (∀ a w, S w → Hd P ops Q S n T f (listed.setIfInBounds m true) a w → K' a w) → if Region.wanted om (yielded ops a.tmps) = true then Oper.wp P om a w K' Q else K' (a.put om.dst undef) w) : Hd P ops Q S n T (f + 1) listed a w := fun inv => by
  simp only [Bool.and_eq_true, decide_eq_true_eq, beq_iff_eq] at hb
  have hri : i ∈ Region.ready .any ops listed := by rw [hb.2.2.2]; simp
  have hrk : k ∈ Region.ready .any ops listed := by rw [hb.2.2.2]; simp
  have hrm : m ∈ Region.ready .any ops listed := by rw [hb.2.2.2]; simp
  refine ⟨by rw [hb.2.2.2]; simp, fun j hj => ?_⟩
  rw [hb.2.2.2] at hj
  by_cases e : j = i
  · subst e
    exact ⟨hb.1, wpOp_step hi (fun K' hK => h K' (fun a w hS hW => hK a w ⟨hS, hW (inv.set hri hb.1)⟩))⟩
  · by_cases e2 : j = k
    · subst e2
      exact ⟨hb.2.1, wpOp_step hk (fun K' hK => h2 K' (fun a w hS hW => hK a w ⟨hS, hW (inv.set hrk hb.2.1)⟩))⟩
    · obtain rfl : j = m := by
        simp only [List.mem_cons, List.not_mem_nil, or_false] at hj
        rcases hj with h | h | h
        · exact absurd h e
        · exact absurd h e2
        · exact h
      exact ⟨hb.2.2.1, wpOp_step hm (fun K' hK => h3 K' (fun a w hS hW => hK a w ⟨hS, hW (inv.set hrm hb.2.2.1)⟩))⟩
end
/-- the beginning -/
theorem wp_region_hdP {P : Program} {Q : Exit → Act → World → Prop} {id : Nat} {a : Act} {w : World} {l : List Oper} (p : Nat) (S : Bool → World → Prop) (n g : Nat) (hm : P.follows .mixedOrders = true) (hg : n + g = l.length) (hok : HdOkP l.toArray n) (hS : S false w.drew)
    (h : HdOkP l.toArray n → S false w.drew → HdP P l.toArray Q p S n (TailT P l.toArray Q n g (l.drop n)) n (Array.replicate l.toArray.size false) a w.drew) : (Code.region id l.toArray true).wp P Q a w := by
  refine wp_region_any hm ?_
  have := wpAny_of_hdP (Q := Q) (p := p) (S := S) (g := g) (n := n) (tailT_any hg) n _ _ _ (h hok hS (inv_start l n))
  rw [hg] at this
  simpa using this
end Go.Proofs.Ytcnebfmlelcliaa
namespace Go.Proofs.Ytcnebfmlelcliaa
set_option linter.unusedSimpArgs false
open Go.RowKit
attribute [local go_sem ↓] Go.wp_at_zero Go.wp_at_succ

/-- the letters' rows of mailboxes -/
def letsL (bs : List BxV) : List Th := bs.map fun y => ltT.row y.v y.rows
/-- the parts of a state in memory of its own -/
def stateL (vb vh vs : Value) (bs : List BxV) (hs : List Hm) (ss : List St) (S : List (Value × List (List UInt8))) : List Th :=
  bxT.row vb bs :: hmT.row vh hs :: stT.row vs ss :: flagsT S :: letsL bs
structure Sized1 (m : Ml) : Prop where
  boxes : m.boxes.length ≤ 1000
  homes : m.homes.length ≤ 1000
  seats : m.seats.length ≤ 1000
  letters : ∀ b ∈ m.boxes, b.letters.length ≤ 10000
  flags : ∀ b ∈ m.boxes, ∀ x ∈ b.letters, x.flags.length ≤ 10000
def CloneRet (W : World) (m : Ml) (e : Ending) (w' : World) : Prop := ∃ (vb vh vs : Value) (bs : List BxV) (S : List (Value × List (List UInt8))), e = .returned (mlVal vb m.nv vh vs m.ns m.sweeps) ∧ Hid (bs.map BxV.b = m.boxes ∧ HasB S bs) ∧ Hid (Zoo W w' (stateL vb vh vs bs m.homes m.seats S))
theorem stateL_box {W0 W : World} {vb vh vs : Value} {bs : List BxV} {hs : List Hm} {ss : List St} {S : List (Value × List (List UInt8))} (h : Zoo W0 W (stateL vb vh vs bs hs ss S)) (hh : HasB S bs) : BxsIn W vb bs := by
  refine ⟨(h.own 0 rfl).rd, fun y hy => ?_⟩
  obtain ⟨i, hi, e⟩ := List.mem_iff_getElem.1 hy
  have h1 : (stateL vb vh vs bs hs ss S)[i + 4]? = some (ltT.row y.v y.rows) := by
    show (letsL bs)[i]? = _
    unfold letsL
    rw [List.getElem?_map, List.getElem?_eq_getElem hi, e]; rfl
  exact ⟨(h.own (i + 4) h1).rd, h.ltsOk 3 rfl (hh y hy)⟩
theorem stateL_in {W0 W : World} {vb vh vs : Value} {bs : List BxV} {m : Ml} {S : List (Value × List (List UInt8))} (h : Zoo W0 W (stateL vb vh vs bs m.homes m.seats S)) (hh : HasB S bs) (hb : bs.map BxV.b = m.boxes) : MlIn W (mlVal vb m.nv vh vs m.ns m.sweeps) m :=
  ⟨vb, vh, vs, bs, rfl, hb, stateL_box h hh, (h.own 1 rfl).rd, (h.own 2 rfl).rd⟩
theorem clone_step {W0 W : World} {A B C D E R : Th} {S S' : List (Value × List (List UInt8))} {lets : List Th} (h : Zoo W0 W (R :: flagsT S' :: A :: B :: C :: D :: E :: flagsT S :: lets)) : Zoo W0 W (A :: B :: C :: D :: E :: flagsT (S' ++ S) :: (lets ++ [R])) := by
  have p1 : (R :: flagsT S' :: A :: B :: C :: D :: E :: flagsT S :: lets).Perm (flagsT S' :: flagsT S :: A :: B :: C :: D :: E :: (lets ++ [R])) := by
    refine (List.perm_append_singleton R (flagsT S' :: A :: B :: C :: D :: E :: flagsT S :: lets)).symm.trans ?_
    exact List.Perm.cons _ (List.perm_middle (l₁ := [A, B, C, D, E]))
  have h2 := flags_merge (h.perm p1)
  exact h2.perm (List.perm_middle (l₁ := [A, B, C, D, E]) (a := flagsT (S' ++ S)) (l₂ := lets ++ [R])).symm
def ml0 : List Value := [.slice none 0 0, .int .u64 0, .slice none 0 0, .slice none 0 0, .int .u64 0, .int .u64 0]
end Go.Proofs.Ytcnebfmlelcliaa
namespace Go.Proofs.Ytcnebfmlelcliaa
open Go.RowKit

/-- the place of the first that p says, or -1 -/
def optI (o : Option Nat) : Int := match o with
  | some i => (i : Int)
  | none => -1
def idxI {α : Type} (p : α → Bool) (l : List α) : Int := optI (l.findIdx? p)
theorem beq_cast (a b : Nat) : ((a : Int) == (b : Int)) = (a == b) := by rw [Bool.eq_iff_iff]; simp; try omega
theorem idxI_some {α : Type} {p : α → Bool} {l : List α} {i : Nat} (hi : i < l.length) (hp : p l[i] = true) (hno : ∀ k (hk : k < i), p (l[k]'(by omega)) = false) : idxI p l = (i : Int) := by
  have : l.findIdx? p = some i := List.findIdx?_eq_some_iff_getElem.2 ⟨hi, hp, fun k hk => by simp [hno k hk]⟩
  unfold idxI; rw [this]; rfl
theorem idxI_none {α : Type} {p : α → Bool} {l : List α} (hno : ∀ k (hk : k < l.length), p l[k] = false) : idxI p l = -1 := by
  have : l.findIdx? p = none := List.findIdx?_eq_none_iff.2 (fun x hx => by
    obtain ⟨k, hk, rfl⟩ := List.mem_iff_getElem.1 hx
    exact hno k hk)
  unfold idxI; rw [this]; rfl
theorem atOne_any (x : BxV) (name : ByteArray) (X : Nat) (W : World) (hX : W.cell? ⟨X, 0, none⟩ = some (.string name)) :
    Calls Try.prog 63 #[.agg #[.string x.name, .int .u64 x.validity, .int .u64 x.next, .int .u64 x.high, .slice x.a x.rows.length x.c], .pointer (some ⟨X, 0, none⟩)] W fun e w' => e = .returned (.bool (x.name.toList == name.toList)) ∧ Hid (Below W.heap.size W w') := by
  have hXlt : X < W.heap.size := World.block_lt_of_cell? W ⟨X, 0, none⟩ hX
  have hXs : X ≠ W.heap.size := by omega
  go_enter Try.func63, Try.ntmps63
  go_wp2_with fail
  all_goals
    go_ret
    exact ⟨ret_bool (by first | rfl | (simp)), Lib.hid ((Below.refl _ W).alloc (Nat.le_refl _) _)⟩
set_option maxRecDepth 100000 in
set_option maxHeartbeats 4000000 in
theorem atIdx_any (v : Value) (l : List BxV) (name : ByteArray) (X : Nat) (hlen : l.length ≤ 100000) (W : World) (ho : Rd W v l.length (bxT.cells l)) (hX : W.cell? ⟨X, 0, none⟩ = some (.string name)) :
    Calls Try.prog 62 #[v, .func (.func 63) #[] #[.pointer (some ⟨X, 0, none⟩)]] W fun e w' => ∃ r : Int, e = .returned (.int .i64 r) ∧ Hid (r = idxI (fun x => x.name.toList == name.toList) l) ∧ Hid (Below W.heap.size W w') := by
  have hXlt : X < W.heap.size := World.block_lt_of_cell? W ⟨X, 0, none⟩ hX
  have hf := Lib.hid (fun x W2 (h : Below W.heap.size W W2) => atOne_any x name X W2 ((h.cell (p := ⟨X, 0, none⟩) hXlt).trans hX))
  obtain ⟨ao, cap, hv, -⟩ := id ho
  subst hv
  replace ho := Lib.hid ho
  obtain ⟨p, hp⟩ : ∃ p : BxV → Bool, p = (fun x => x.name.toList == name.toList) := ⟨_, rfl⟩
  rw [← hp]
  have hpx : Hid (∀ x, (x.name.toList == name.toList) = p x) := Lib.hid (fun x => by rw [hp])
  clear hp hX hXlt
  go_enter Try.func62, Try.ntmps62
  go_wp2_with fail
  go_loopw [8] (fun v8 wr => ∃ i : Nat, v8 = .int .i64 i ∧ i ≤ l.length ∧ Hid (∀ k (_ : k < i) (h2 : k < l.length), p l[k] = false) ∧ Hid (Below W.heap.size W wr)) (fun v8 _ => l.length - (intOf v8).toNat)
  case atStart => exact ⟨0, rfl, Nat.zero_le _, Lib.hid (fun k hk => by omega), Lib.hid (Below.refl _ _)⟩
  case round =>
    obtain ⟨i, rfl, hi, hno, hb⟩ := hrel
    by_cases hlt : i < l.length
    · obtain ⟨b, o, cap', hv, -, hblt, hcells⟩ := bxT.rd_cells (ho.out.below hb.out) hlt
      injection hv with hv1 hv2 hv3
      subst hv1 hv3
      obtain ⟨x, hx⟩ : ∃ x, l[i] = x := ⟨_, rfl⟩
      have r0 : wr.cell? ⟨b, o + i * 5, none⟩ = some (.string x.name) := by have := hcells 0 _ (by rw [hx]; rfl); rwa [show o + (i * bxT.K + 0) = o + i * 5 from by simp only [bxT]; omega] at this
      have r1 : wr.cell? ⟨b, o + i * 5 + 1, none⟩ = some (.int .u64 x.validity) := by have := hcells 1 _ (by rw [hx]; rfl); rwa [show o + (i * bxT.K + 1) = o + i * 5 + 1 from by simp only [bxT]; omega] at this
      have r2 : wr.cell? ⟨b, o + i * 5 + 2, none⟩ = some (.int .u64 x.next) := by have := hcells 2 _ (by rw [hx]; rfl); rwa [show o + (i * bxT.K + 2) = o + i * 5 + 2 from by simp only [bxT]; omega] at this
      have r3 : wr.cell? ⟨b, o + i * 5 + 3, none⟩ = some (.int .u64 x.high) := by have := hcells 3 _ (by rw [hx]; rfl); rwa [show o + (i * bxT.K + 3) = o + i * 5 + 3 from by simp only [bxT]; omega] at this
      have r4 : wr.cell? ⟨b, o + i * 5 + 4, none⟩ = some (.slice x.a x.rows.length x.c) := by have := hcells 4 _ (by rw [hx]; rfl); rwa [show o + (i * bxT.K + 4) = o + i * 5 + 4 from by simp only [bxT]; omega] at this
      have hcall := hf.out x wr hb.out
      rw [hpx.out x] at hcall
      have hl1 : (i : Int) < (l.length : Int) := by omega
      cases hq : p x with
      | true =>
        have hfound := Lib.hid (idxI_some hlt (by rw [hx]; exact hq) (fun k hk => hno.out k hk (by omega)) : idxI p l = (i : Int))
        rw [hq] at hcall
        replace hcall := Lib.hid hcall
        replace hx := Lib.hid hx
        clear hcells hq hno
        go_wp2_with fail
        refine hcall.out.mono ?_
        rintro e w1 ⟨rfl, hb1⟩
        have hB := Lib.hid (hb.out.trans (hb1.out.mono hb.out.size))
        clear hcall hb1
        go_wp2_with fail
        go_ret
        exact ⟨_, rfl, Lib.hid hfound.out.symm, hB⟩
      | false =>
        have hno2 : Hid (∀ k (_ : k < i + 1) (h2 : k < l.length), p l[k] = false) := Lib.hid (fun k hk h2 => by
          by_cases e : k = i
          · subst e; rw [hx]; exact hq
          · exact hno.out k (by omega) h2)
        rw [hq] at hcall
        replace hcall := Lib.hid hcall
        replace hx := Lib.hid hx
        clear hcells hq hno
        go_wp2_with fail
        refine hcall.out.mono ?_
        rintro e w1 ⟨rfl, hb1⟩
        have hB := Lib.hid (hb.out.trans (hb1.out.mono hb.out.size))
        clear hcall hb1
        go_wp2_with fail
        go_roundw
        case rel => exact ⟨i + 1, by go_num, by omega, hno2, hB⟩
        case measure => simp [intOf] <;> omega
    · have hnone := Lib.hid (idxI_none (fun k hk => hno.out k (by omega) hk) : idxI p l = -1)
      have hl1 : (l.length : Int) ≤ (i : Int) := by omega
      go_wp2_with fail
      go_ret
      exact ⟨_, rfl, Lib.hid hnone.out.symm, hb⟩
end Go.Proofs.Ytcnebfmlelcliaa
namespace Go.Proofs.Ytcnebfmlelcliaa
set_option linter.unusedSimpArgs false
open Go.RowKit

theorem cell_one (w : World) (v : Value) (t : TypeId) (n : Nat) (h : w.heap.size = n) : (w.alloc (.cells #[v] t)).cell? ⟨n, 0, none⟩ = some v := by subst h; simp
theorem cell_old {w : World} (o : Obj) {a : Addr} {v : Value} (h : w.cell? a = some v) : (w.alloc o).cell? a = some v := by
  rw [World.cell?_alloc_lt _ _ _ (World.block_lt_of_cell? w a h)]; exact h
def IntBelow (W : World) (r : Int) (e : Ending) (w' : World) : Prop := e = .returned (.int .i64 r) ∧ Hid (Below W.heap.size W w')
def atB (name : ByteArray) (bs : List BxV) : Int := idxI (fun x => x.name.toList == name.toList) bs
set_option maxRecDepth 100000 in
set_option maxHeartbeats 4000000 in
theorem at_any {W : World} (ab ah as_ : Option Addr) (cb nh ch ns cs nv nse sw : Nat) (bs : List BxV) (name : ByteArray) (hh : Rd W (.slice ab bs.length cb) bs.length (bxT.cells bs)) (hl : bs.length ≤ 100000) :
    Calls Try.prog 52 #[mlVal (.slice ab bs.length cb) nv (.slice ah nh ch) (.slice as_ ns cs) nse sw, .string name] W (IntBelow W (atB name bs)) := by
  have hb : Below W.heap.size W ((W.alloc (.cells #[.slice ab bs.length cb, .int .u64 nv, .slice ah nh ch, .slice as_ ns cs, .int .u64 nse, .int .u64 sw] 47)).alloc (.cells #[.string name] 9)) := ((Below.refl _ W).alloc (Nat.le_refl _) _).alloc (by simp) _
  have hc := Lib.hid (atIdx_any (.slice ab bs.length cb) bs name (W.heap.size + 1) hl _ (Rd.below hh hb) (cell_one _ _ _ _ (by simp)))
  replace hb := Lib.hid hb
  unfold mlVal
  go_enter Try.func52, Try.ntmps52
  go_wp2_with fail
  refine hc.out.mono ?_
  rintro e w2 ⟨r, rfl, hr, hb2⟩
  have hB := Lib.hid (hb.out.trans (hb2.out.mono hb.out.size))
  clear hc hb2
  go_wp2_with fail
  go_ret
  exact ⟨ret_int hr.out, hB⟩
end Go.Proofs.Ytcnebfmlelcliaa
namespace Go.Proofs.Ytcnebfmlelcliaa
open Go.RowKit

theorem heap_setCells {g : Nat} {t : TypeId} : ∀ (vs : List Value) (o : Nat) (C : List Value) (W : World), W.heap[g]? = some (.cells C.toArray t (0, 0)) → o + vs.length ≤ C.length → (W.setCells g o vs).heap[g]? = some (.cells (C.take o ++ vs ++ C.drop (o + vs.length)).toArray t (0, 0))
  | [], o, C, W, h, hl => by simpa [World.setCells] using h
  | v :: r, o, C, W, h, hl => by
    simp only [List.length_cons] at hl
    rw [World.setCells, heap_setCells r (o + 1) (C.set o v) _ (cells_set h o v) (by rw [List.length_set]; omega)]
    have e : (C.set o v).take (o + 1) ++ r ++ (C.set o v).drop (o + 1 + r.length) = C.take o ++ (v :: r) ++ C.drop (o + (v :: r).length) := by
      rw [List.drop_set_of_lt (by omega), List.take_set]
      have e1 : (C.take (o + 1)).set o v = C.take o ++ [v] := by
        rw [List.take_succ_eq_append_getElem (by omega), List.set_append_right _ _ (by rw [List.length_take]; omega), List.length_take, show o - min o C.length = 0 from by omega]; rfl
      rw [e1, List.append_assoc, List.append_assoc, List.append_assoc, List.length_cons, show o + 1 + r.length = o + (r.length + 1) from by omega]; rfl
    rw [e]
theorem KeptB.sets {W : World} {g : Nat} : ∀ (vs : List Value) (o : Nat) {W' : World}, KeptB W g W' → KeptB W g (W'.setCells g o vs)
  | [], _, _, h => h
  | v :: r, o, _, h => KeptB.sets r (o + 1) (h.set o v)
section
variable {α : Type} {R : RT α}
theorem RT.zeroV (R : RT α) (W : World) : (zeroValue R.t).run Try.prog W = .ok R.z W := by
  obtain ⟨i, hi, hz, -, -⟩ := info_parts R.info
  simp [zeroValue, typeInfo, hi, hz]
theorem RT.zeroCells (R : RT α) (zr : α) (hz : R.enc zr = R.z.cells.toList) (n : Nat) : (Builtin.zeroCells R.z.cells n).toList = R.cells (List.replicate n zr) := by
  have hK := R.pos
  have hzs := R.zs
  have hl : (Builtin.zeroCells R.z.cells n).toList.length = n * R.K := by simp [Builtin.zeroCells, hzs]
  apply List.ext_getElem?
  intro i
  by_cases hi : i < n * R.K
  · obtain ⟨m, q, hq, rfl⟩ : ∃ m q, q < R.K ∧ i = m * R.K + q := ⟨i / R.K, i % R.K, Nat.mod_lt _ hK, by rw [Nat.mul_comm]; exact (Nat.div_add_mod i R.K).symm⟩
    have hm : m < n := by
      rcases Nat.lt_or_ge m n with h1 | h1
      · exact h1
      · have := Nat.mul_le_mul_right R.K h1; omega
    rw [R.cells_get _ m (by rw [List.length_replicate]; exact hm) q hq, List.getElem_replicate, hz]
    simp only [Builtin.zeroCells, Array.toList_map, Array.toList_range, List.getElem?_map, hzs]
    rw [List.getElem?_range hi, Option.map_some, show (m * R.K + q) % R.K = q from by rw [Nat.mul_comm, Nat.mul_add_mod, Nat.mod_eq_of_lt hq], getElem!_pos _ _ (by rw [hzs]; exact hq), Array.getElem?_toList, Array.getElem?_eq_getElem (by rw [hzs]; exact hq)]
  · rw [List.getElem?_eq_none (by omega), List.getElem?_eq_none (by rw [R.cells_len, List.length_replicate]; omega)]
/-- 'clear(s[i:])' of a row -/
theorem RT.PR.clear {W : World} {g : Nat} {l : List α} {rest : List Value} (h : R.PR W g l rest) (zr : α) (hz : R.enc zr = R.z.cells.toList) (i n : Nat) (hn : 0 < n) (hi : i + n = l.length) (c : Nat) (ty : TypeId) :
    (Builtin.clear_ #[R.ts] ty #[.slice (some ⟨g, i * R.K, none⟩) n c]).run Try.prog W = .ok (.tuple #[]) (W.setCells g (i * R.K) (R.cells (List.replicate n zr))) := by
  have hK := R.pos
  have hln : (R.cells (List.replicate n zr)).length = n * R.K := by rw [R.cells_len, List.length_replicate]
  have hll : i * R.K + n * R.K = l.length * R.K := by rw [← hi, Nat.add_mul]
  have hst := run_storeCells_cells (P := Try.prog) g (i * R.K) (R.cells (List.replicate n zr)) 0 W (fun j hj => by
    rw [hln] at hj
    rw [Nat.add_zero, cell_at h]
    rw [List.getElem?_toArray, List.getElem?_append_left (by rw [R.cells_len]; omega)]
    rw [List.getElem?_eq_getElem (by rw [R.cells_len]; omega)]; rfl) (fun j _ => h.free _) (R.cells_one _)
  simp only [Nat.add_zero] at hst
  obtain ⟨m, rfl⟩ : ∃ m, n = m + 1 := ⟨n - 1, by omega⟩
  simp [Builtin.clear_, run_underlying R.und, R.zeroV, R.zeroCells zr hz, hst]
theorem RT.PR.cleared {W : World} {g : Nat} {l : List α} {rest : List Value} (h : R.PR W g l rest) (zr : α) (i n : Nat) (hi : i + n = l.length) : R.PR (W.setCells g (i * R.K) (R.cells (List.replicate n zr))) g (l.take i ++ List.replicate n zr) rest := by
  have hll : i * R.K + n * R.K = l.length * R.K := by rw [← hi, Nat.add_mul]
  have hln : (R.cells (List.replicate n zr)).length = n * R.K := by rw [R.cells_len, List.length_replicate]
  unfold RT.PR
  rw [heap_setCells _ _ _ _ h (by rw [hln, List.length_append, R.cells_len]; omega), hln, hll]
  have e1 : R.cells l = R.cells (l.take i) ++ R.cells (l.drop i) := by rw [← R.cells_app, List.take_append_drop]
  have e2 : (R.cells (l.take i)).length = i * R.K := by rw [R.cells_len, List.length_take]; congr 1; omega
  have e3 : (R.cells l ++ rest).take (i * R.K) = R.cells (l.take i) := by
    rw [e1, List.append_assoc, List.take_append_of_le_length (by rw [e2]; exact Nat.le_refl _), List.take_of_length_le (by rw [e2]; exact Nat.le_refl _)]
  have e4 : (R.cells l ++ rest).drop (l.length * R.K) = rest := by
    rw [← R.cells_len, List.drop_left]
  rw [e3, e4, R.cells_app]
/-- the end of a row is cleared and cut off -/
theorem Zoo.clear {W0 W : World} {L : List Th} {v : Value} {l : List α} (h : Zoo W0 W L) (i : Nat) (hi : L[i]? = some (R.row v l)) (zr : α) (hz : R.enc zr = R.z.cells.toList) (k n : Nat) (hn : 0 < n) (hk : k + n = l.length) :
    ∃ g cap, v = .slice (some ⟨g, 0, none⟩) l.length cap ∧ l.length ≤ cap ∧ (∀ c ty, (Builtin.clear_ #[R.ts] ty #[.slice (some ⟨g, k * R.K, none⟩) n c]).run Try.prog W = .ok (.tuple #[]) (W.setCells g (k * R.K) (R.cells (List.replicate n zr)))) ∧ Zoo W0 (W.setCells g (k * R.K) (R.cells (List.replicate n zr))) (L.set i (R.row (.slice (some ⟨g, 0, none⟩) k cap) (l.take k))) := by
  obtain ⟨F, ⟨ho, hF⟩, hlow, hact⟩ := h.act i _ hi
  obtain ⟨g, cap, rest, rfl, hc, hg, hrow, hback⟩ := ho.row (by omega)
  have h2 := hback _ _ k (by omega) (by rw [List.length_append, List.length_take, List.length_replicate]; omega) (hrow.cleared zr k n hk)
  rw [List.take_append_of_le_length (by rw [List.length_take]; omega), List.take_take, Nat.min_self] at h2
  have hkb : KeptB W g (W.setCells g (k * R.K) (R.cells (List.replicate n zr))) := KeptB.sets _ _ (KeptB.refl W g)
  exact ⟨g, cap, rfl, hc, fun c ty => hrow.clear zr hz k n hn hk c ty, hact _ F _ ⟨h2, hF⟩ (hkb.grows hF rfl)⟩
end
theorem idxI_cases {α : Type} (p : α → Bool) (l : List α) : (idxI p l = -1 ∧ l.filter (fun x => !p x) = l) ∨ ∃ (i : Nat) (hi : i < l.length), idxI p l = (i : Int) ∧ p l[i] = true ∧ ∀ k (hk : k < i), p (l[k]'(by omega)) = false := by
  unfold idxI
  cases h : l.findIdx? p with
  | none =>
    refine .inl ⟨rfl, List.filter_eq_self.2 (fun x hx => ?_)⟩
    rw [List.findIdx?_eq_none_iff.1 h x hx]; rfl
  | some i =>
    obtain ⟨hi, h1, h2⟩ := List.findIdx?_eq_some_iff_getElem.1 h
    exact .inr ⟨i, hi, rfl, h1, fun k hk => by have := h2 k hk; simpa using this⟩
/-- what a round of DeleteFunc has kept -/
structure Kept {α : Type} (p : α → Bool) (l cur : List α) (i j : Nat) : Prop where
  len : cur.length = l.length
  lt : i < j
  le : j ≤ l.length
  done : cur.take i = (l.take j).filter (fun x => !p x)
  todo : cur.drop j = l.drop j
theorem Kept.start {α : Type} {p : α → Bool} {l : List α} {i : Nat} (hi : i < l.length) (hp : p l[i] = true) (hno : ∀ k (hk : k < i), p (l[k]'(by omega)) = false) : Kept p l l i (i + 1) where
  len := rfl
  lt := Nat.lt_succ_self _
  le := hi
  done := by
    rw [List.take_succ_eq_append_getElem hi, List.filter_append, List.filter_eq_self.2 (fun x hx => by
      obtain ⟨k, hk, rfl⟩ := List.mem_iff_getElem.1 hx
      rw [List.length_take] at hk
      rw [List.getElem_take, hno k (by omega)]; rfl)]
    simp [hp]
  todo := rfl
theorem Kept.get {α : Type} {p : α → Bool} {l cur : List α} {i j : Nat} (h : Kept p l cur i j) (hj : j < l.length) : cur[j]'(by have := h.len; omega) = l[j] := by
  have := h.todo
  have e1 := List.drop_eq_getElem_cons (l := cur) (i := j) (by have := h.len; omega)
  have e2 := List.drop_eq_getElem_cons (l := l) (i := j) hj
  rw [e1, e2] at this
  exact (List.cons.inj this).1
theorem Kept.skip {α : Type} {p : α → Bool} {l cur : List α} {i j : Nat} (h : Kept p l cur i j) (hj : j < l.length) (hp : p l[j] = true) : Kept p l cur i (j + 1) where
  len := h.len
  lt := Nat.lt_succ_of_lt h.lt
  le := hj
  done := by rw [h.done, List.take_succ_eq_append_getElem hj, List.filter_append]; simp [hp]
  todo := by rw [← List.drop_drop, ← List.drop_drop, h.todo]
theorem Kept.keep {α : Type} {p : α → Bool} {l cur : List α} {i j : Nat} (h : Kept p l cur i j) (hj : j < l.length) (hp : p l[j] = false) : Kept p l (cur.set i l[j]) (i + 1) (j + 1) where
  len := by rw [List.length_set]; exact h.len
  lt := Nat.succ_lt_succ h.lt
  le := hj
  done := by
    have hi : i < cur.length := by have := h.len; have := h.lt; omega
    rw [List.take_set, List.take_succ_eq_append_getElem hi, List.set_append_right _ _ (by rw [List.length_take]; omega), List.length_take, show i - min i cur.length = 0 from by omega, h.done, List.take_succ_eq_append_getElem hj, List.filter_append]
    simp [hp]
  todo := by
    rw [List.drop_set_of_lt (by have := h.lt; omega), ← List.drop_drop, ← List.drop_drop, h.todo]
theorem Kept.all {α : Type} {p : α → Bool} {l cur : List α} {i : Nat} (h : Kept p l cur i l.length) : cur.take i = l.filter (fun x => !p x) := by rw [h.done, List.take_length]
end Go.Proofs.Ytcnebfmlelcliaa
namespace Go.Proofs.Ytcnebfmlelcliaa
set_option linter.unusedSimpArgs false
open Go.RowKit

section
variable {P : Program} {ops : Array Oper} {S : World → Prop}
theorem exec_load_cells {o : Oper} {ρ : Operand → Value} (t : TypeId) (x : Operand) (ho : o.op = .load t x) (b off : Nat) (cs : List Value) (hx : ρ x = .pointer (some ⟨b, off, none⟩)) (hagg : ∀ w, (isAgg t).run P w = .ok true w) (hsz : ∀ w, (Go.sizeOf t).run P w = .ok cs.length w) (W : World) (h : ∀ j v, cs[j]? = some v → W.cell? ⟨b, off + j, none⟩ = some v) : (execOp ρ o).run P W = .ok (.value (.agg cs.toArray)) W := by
  have := run_loadCells_list (P := P) W ⟨b, off, none⟩ cs (fun j v hj => by rw [Addr.add_lit]; exact h j v hj)
  simp [execOp, ho, Instr.loadAt, Instr.sureAddr, hx, loadVar, hagg, hsz, this]
theorem yields_load_cells {o : Oper} {a : Act} (t : TypeId) (x : Operand) (ho : o.op = .load t x) (b off : Nat) (cs : List Value) (hx : a.eval x = .pointer (some ⟨b, off, none⟩)) (hagg : ∀ w, (isAgg t).run P w = .ok true w) (hsz : ∀ w, (Go.sizeOf t).run P w = .ok cs.length w) (hgd : o.guard = none) (h : ∀ W, S W → ∀ j v, cs[j]? = some v → W.cell? ⟨b, off + j, none⟩ = some v) : YieldsIf P ops S o (.agg cs.toArray) a :=
  .inl ⟨by simp [Region.wanted, hgd], fun w hw => exec_load_cells t x ho b off cs hx hagg hsz w (h w hw)⟩
theorem wpList_load_cells {o : Oper} {rest : List Oper} {a : Act} {w : World} {Q : Exit → Act → World → Prop} (hgd : o.guard = none) (t : TypeId) (x : Operand) (ho : o.op = .load t x) (b off : Nat) (cs : List Value) (hx : a.eval x = .pointer (some ⟨b, off, none⟩)) (hagg : ∀ w, (isAgg t).run P w = .ok true w) (hsz : ∀ w, (Go.sizeOf t).run P w = .ok cs.length w) (h : ∀ j v, cs[j]? = some v → w.cell? ⟨b, off + j, none⟩ = some v)
    (hK : wpList P ops Q rest (a.put o.dst (.agg cs.toArray)) w) : wpList P ops Q (o :: rest) a w :=
  wpList_plain hgd fun K hK' => by
    have h1 := exec_load_cells (P := P) (ρ := a.eval) t x ho b off cs hx hagg hsz w h
    unfold Oper.wp
    simp only [h1, Result.andThen]
    exact hK' _ _ hK
theorem exec_store_cells {o : Oper} {ρ : Operand → Value} (t : TypeId) (x u : Operand) (ho : o.op = .store t x u) (b off : Nat) (cs : List Value) (hx : ρ x = .pointer (some ⟨b, off, none⟩)) (hu : ρ u = .agg cs.toArray) (hsz : ∀ w, (Go.sizeOf t).run P w = .ok cs.length w) (h1 : ∀ v ∈ cs, v.oneCell' = true) (W : World) (hc : ∀ j, j < cs.length → (W.cell? ⟨b, off + j, none⟩).isSome = true) (hf : ∀ j, W.frozen? ⟨b, j, none⟩ = false) : ∃ n, (execOp ρ o).run P W = .ok n (W.setCells b off cs) ∧ n = .skip := by
  have := run_storeCells_cells (P := P) b off cs 0 W (by simpa using hc) (fun j _ => hf _) h1
  simp only [Nat.add_zero] at this
  refine ⟨_, ?_, rfl⟩
  simp [execOp, ho, Instr.storeAt, Instr.sureAddr, hx, hu, storeVar, hsz, Value.cells, this]
theorem wpList_store_cells {o : Oper} {rest : List Oper} {a : Act} {w : World} {Q : Exit → Act → World → Prop} (hgd : o.guard = none) (t : TypeId) (x u : Operand) (ho : o.op = .store t x u) (b off : Nat) (cs : List Value) (hx : a.eval x = .pointer (some ⟨b, off, none⟩)) (hu : a.eval u = .agg cs.toArray) (hsz : ∀ w, (Go.sizeOf t).run P w = .ok cs.length w) (h1 : ∀ v ∈ cs, v.oneCell' = true) (hc : ∀ j, j < cs.length → (w.cell? ⟨b, off + j, none⟩).isSome = true) (hf : ∀ j, w.frozen? ⟨b, j, none⟩ = false)
    (hK : wpList P ops Q rest (a.put o.dst undef) (w.setCells b off cs)) : wpList P ops Q (o :: rest) a w :=
  wpList_plain hgd fun K hK' => by
    obtain ⟨n, h2, rfl⟩ := exec_store_cells (P := P) (ρ := a.eval) t x u ho b off cs hx hu hsz h1 w hc hf
    unfold Oper.wp
    simp only [h2, Result.andThen]
    exact hK' _ _ hK
end
/-- all cells of a block are written -/
theorem Zoo.fillBox {W0 W : World} {L : List Th} {B : Nat} {C : List Value} {t : TypeId} (h : Zoo W0 W L) (i : Nat) (hi : L[i]? = some (boxT B C.toArray t)) (cs : List Value) (hl : cs.length = C.length) : Zoo W0 (W.setCells B 0 cs) (L.set i (boxT B cs.toArray t)) := by
  obtain ⟨F, ⟨h1, hF⟩, hlow, hact⟩ := h.act i _ hi
  have h2 := heap_setCells cs 0 C W h1 (by omega)
  rw [List.take_zero, List.nil_append, Nat.zero_add, hl, List.drop_length, List.append_nil] at h2
  have hk : KeptB W B (W.setCells B 0 cs) := KeptB.sets _ _ (KeptB.refl W B)
  exact hact _ F _ ⟨h2, hF⟩ ⟨hk.os, hk.tape, hk.output, Nat.le_of_eq hk.size.symm, fun k hk1 hn => hk.block k (fun e => hn ((hF k).2 e)), fun k hk1 => .inl hk1⟩
theorem Zoo.boxSome {W0 W : World} {L : List Th} {B : Nat} {C : List Value} {t : TypeId} (h : Zoo W0 W L) (i : Nat) (hi : L[i]? = some (boxT B C.toArray t)) : (∀ j, j < C.length → (W.cell? ⟨B, 0 + j, none⟩).isSome = true) ∧ ∀ j, W.frozen? ⟨B, j, none⟩ = false := by
  obtain ⟨h1, -⟩ := h.box i hi
  refine ⟨fun j hj => ?_, box_free h1⟩
  rw [Nat.zero_add, box_cell h1 j, List.getElem?_toArray, List.getElem?_eq_getElem hj]; rfl
end Go.Proofs.Ytcnebfmlelcliaa
namespace Go.Proofs.Ytcnebfmlelcliaa
set_option linter.unusedSimpArgs false
open Go.RowKit

def newBx : BxV := ⟨⟨#[73, 78, 66, 79, 88]⟩, 1, 1, 1, [], none, 0⟩
def newM : Ml := ⟨[newBx.b], 2, [], [], 1, 0⟩
/-- what a call hands back that reads as a state -/
def MlRet (W : World) (m : Ml) (e : Ending) (w' : World) : Prop := ∃ v, e = .returned v ∧ Hid (MlIn w' v m) ∧ Hid (Below W.heap.size W w')
theorem new_in (W : World) : MlIn (W.alloc (.cells (bxT.enc newBx).toArray 28)) (mlVal (.slice (some ⟨W.heap.size, 0, none⟩) 1 1) 2 (.slice none 0 0) (.slice none 0 0) 1 0) newM :=
  ⟨_, _, _, [newBx], rfl, rfl, ⟨(RT.Own.one bxT W newBx _ rfl).rd, fun y hy => by
    simp only [List.mem_singleton] at hy
    subst hy
    exact ⟨(RT.Own.nil ltT _).rd, fun z hz => by cases hz⟩⟩, (RT.Own.nil hmT _).rd, (RT.Own.nil stT _).rd⟩
set_option maxRecDepth 100000 in
set_option maxHeartbeats 4000000 in
theorem new_any (W : World) : Calls Try.prog 38 #[] W (MlRet W newM) := by
  have hz := ((Zoo.nil W).newBox #[.slice (some ⟨W.heap.size + 1, 0, none⟩) 1 1, .int .u64 2, .slice none 0 0, .slice none 0 0, .int .u64 1, .int .u64 0] 47).newBox #[.string ⟨#[73, 78, 66, 79, 88]⟩, .int .u64 1, .int .u64 1, .int .u64 1, .slice none 0 0] 28
  have h1 := new_in (W.alloc (.cells #[.slice (some ⟨W.heap.size + 1, 0, none⟩) 1 1, .int .u64 2, .slice none 0 0, .slice none 0 0, .int .u64 1, .int .u64 0] 47))
  rw [show (W.alloc (.cells #[.slice (some ⟨W.heap.size + 1, 0, none⟩) 1 1, .int .u64 2, .slice none 0 0, .slice none 0 0, .int .u64 1, .int .u64 0] 47)).heap.size = W.heap.size + 1 from by simp] at h1
  obtain ⟨hb, -⟩ := hz.box 1 rfl
  have h2 := Lib.hid hz.bel
  replace h1 := Lib.hid h1
  replace hb := Lib.hid hb
  clear hz
  go_enter Try.func38, Try.ntmps38
  go_wp2_with fail
  refine bodyPost_ret (results_cell_row rfl _ _ _ 47 _ (0, 0) _ rfl hb.out Try.underlying47 rfl rfl) rfl ?_
  exact ⟨_, rfl, h1, h2⟩
end Go.Proofs.Ytcnebfmlelcliaa
