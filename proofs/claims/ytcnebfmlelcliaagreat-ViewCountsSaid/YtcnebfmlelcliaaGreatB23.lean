/- Sync, loop by loop: what is so far told, and what the rows are; plain. -/
import Derived.Test.YtcnebfmlelcliaaGreatB22
import Derived.Test.YtcnebfmlelcliaaGreatB21
import Derived.Test.YtcnebfmlelcliaaGreatB02
namespace Go.Proofs.YtcnebfmlelcliaaGreat
open Go.RowKit
theorem lettI_zero : ∀ {rows : List LtV} {u : Nat}, lettI rows u = 0 → modAt (rows.map ltRow) u = none
  | [], _, _ => rfl
  | r :: l, u, h => by
    unfold lettI at h
    split at h
    · cases h
    · rename_i hne
      have h2 : lettI l u = 0 := by
        cases hl : lettI l u with
        | zero => rfl
        | succ n => rw [hl] at h; cases h
      have := lettI_zero h2
      unfold modAt at this ⊢
      have e : ((ltRow r).1 == u) = false := beq_eq_false_iff_ne.2 hne
      simp only [List.map_cons, List.find?, e]
      exact this
theorem lettI_succ : ∀ {rows : List LtV} {u k : Nat}, lettI rows u = k + 1 → ∃ hk : k < rows.length, rows[k].x.uid = u ∧ modAt (rows.map ltRow) u = some rows[k].x.mod
  | r :: l, u, k, h => by
    unfold lettI at h
    split at h
    · rename_i he
      have : k = 0 := by omega
      subst this
      refine ⟨by simp, he, ?_⟩
      unfold modAt
      have e : ((ltRow r).1 == u) = true := beq_iff_eq.2 he
      simp only [List.map_cons, List.find?, e]
      rfl
    · rename_i hne
      cases hl : lettI l u with
      | zero => rw [hl] at h; cases h
      | succ n =>
        rw [hl] at h
        have : k = n + 1 := by simpa using h.symm
        subst this
        obtain ⟨h1, h2, h3⟩ := lettI_succ hl
        refine ⟨by simpa using h1, h2, ?_⟩
        unfold modAt at h3 ⊢
        have e : ((ltRow r).1 == u) = false := beq_eq_false_iff_ne.2 hne
        simp only [List.map_cons, List.find?, e]
        exact h3
theorem expR_step (l b : List (Nat × Nat)) (k : Nat) : expR l b (k + 1) = if (modAt b (l[k]?.getD (0, 0)).1).isSome then expR l b k else (9, k + 1) :: expR l b k := rfl
theorem expR_len (l b : List (Nat × Nat)) : ∀ k, (expR l b k).length ≤ k
  | 0 => Nat.le_refl _
  | k + 1 => by
    have := expR_len l b k
    unfold expR
    split
    · omega
    · rw [List.length_cons]; omega
/-- the loop of the expunges, with k rows to go -/
structure ExpI (l b : List (Nat × Nat)) (k : Nat) (cur : List (Nat × Nat)) (rps : List Rp) : Prop where
  cur : cur = l.take k ++ (l.drop k).filter (fun r => (modAt b r.1).isSome)
  say : rps.map Rp.say ++ expR l b k = expR l b l.length
theorem ExpI.start (l b : List (Nat × Nat)) : ExpI l b l.length l [] := ⟨by simp, rfl⟩
theorem ExpI.yes {l b cur : List (Nat × Nat)} {k : Nat} {rps : List Rp} (h : ExpI l b (k + 1) cur rps) (hk : k < l.length) (hs : (modAt b l[k].1).isSome = true) : ExpI l b k cur rps := by
  refine ⟨?_, ?_⟩
  · rw [h.cur, List.take_succ_eq_append_getElem hk, List.drop_eq_getElem_cons hk, List.filter_cons_of_pos (by simpa using hs), List.append_assoc]; rfl
  · have := h.say
    have hg : l[k]?.getD (0, 0) = l[k] := by rw [List.getElem?_eq_getElem hk]; rfl
    rw [expR_step, hg, if_pos hs] at this
    exact this
theorem ExpI.no {l b cur : List (Nat × Nat)} {k : Nat} {rps : List Rp} (h : ExpI l b (k + 1) cur rps) (hk : k < l.length) (hs : ¬ (modAt b l[k].1).isSome = true) (y : Rp) (hy : y.say = (9, k + 1)) : ExpI l b k (cur.take k ++ cur.drop (k + 1)) (rps ++ [y]) := by
  have hl1 : (l.take (k + 1)).length = k + 1 := by rw [List.length_take]; omega
  refine ⟨?_, ?_⟩
  · rw [h.cur, List.drop_left' hl1, List.take_append_of_le_length (by omega), List.take_take, Nat.min_eq_left (Nat.le_succ k), List.drop_eq_getElem_cons hk, List.filter_cons_of_neg (by simpa using hs)]
  · have := h.say
    have hg : l[k]?.getD (0, 0) = l[k] := by rw [List.getElem?_eq_getElem hk]; rfl
    rw [expR_step, hg, if_neg hs] at this
    rw [List.map_append, List.append_assoc, ← this]
    simp [hy]
theorem ExpI.lens {l b cur : List (Nat × Nat)} {k : Nat} {rps : List Rp} (h : ExpI l b k cur rps) (hk : k ≤ l.length) : k ≤ cur.length ∧ cur.length ≤ l.length ∧ rps.length ≤ l.length := by
  have h1 : (l.take k).length = k := by rw [List.length_take]; omega
  have h2 := List.length_filter_le (fun r : Nat × Nat => (modAt b r.1).isSome) (l.drop k)
  rw [List.length_drop] at h2
  have h3 := congrArg List.length h.say
  rw [List.length_append, List.length_map] at h3
  have h4 := expR_len l b l.length
  rw [h.cur, List.length_append, h1]
  omega
theorem ExpI.at_ {l b cur : List (Nat × Nat)} {k : Nat} {rps : List Rp} (h : ExpI l b (k + 1) cur rps) (hk : k < l.length) : ∃ hc : k < cur.length, cur[k] = l[k] := by
  have hc : k < cur.length := by have := (h.lens hk).1; omega
  refine ⟨hc, ?_⟩
  have h1 : (l.take (k + 1)).length = k + 1 := by rw [List.length_take]; omega
  have := h.cur
  subst this
  rw [List.getElem_append_left (by omega), List.getElem_take]
theorem ExpI.done {l b cur : List (Nat × Nat)} {rps : List Rp} (h : ExpI l b 0 cur rps) : cur = keptL l b true ∧ rps.map Rp.say = expR l b l.length := by
  refine ⟨?_, ?_⟩
  · have := h.cur; simpa [keptL] using this
  · have := h.say; rwa [show expR l b 0 = [] from rfl, List.append_nil] at this
theorem ExpI.none {l b cur : List (Nat × Nat)} {rps : List Rp} (h : ExpI l b l.length cur rps) : cur = keptL l b false ∧ rps.map Rp.say = [] := by
  refine ⟨?_, ?_⟩
  · have := h.cur; simpa [keptL] using this
  · have := h.say
    have h2 := congrArg List.length this
    rw [List.length_append] at h2
    exact List.eq_nil_of_length_eq_zero (by omega)
/-- the loop of the new letters, q of them looked at -/
def NewI (kept b : List (Nat × Nat)) (q : Nat) (cur : List (Nat × Nat)) : Prop := cur = kept ++ (b.take q).filter (fun x => decide (mostL kept < x.1))
theorem NewI.start (kept b : List (Nat × Nat)) : NewI kept b 0 kept := by simp [NewI]
theorem NewI.yes {kept b cur : List (Nat × Nat)} {q : Nat} (h : NewI kept b q cur) (hq : q < b.length) (hm : mostL kept < b[q].1) : NewI kept b (q + 1) (cur ++ [b[q]]) := by
  unfold NewI at h ⊢
  rw [h, List.take_succ_eq_append_getElem hq, List.filter_append, List.append_assoc]
  have e : [b[q]].filter (fun x => decide (mostL kept < x.1)) = [b[q]] := List.filter_cons_of_pos (p := fun x : Nat × Nat => decide (mostL kept < x.1)) (by simpa using hm)
  rw [e]
theorem NewI.no {kept b cur : List (Nat × Nat)} {q : Nat} (h : NewI kept b q cur) (hq : q < b.length) (hm : ¬ mostL kept < b[q].1) : NewI kept b (q + 1) cur := by
  unfold NewI at h ⊢
  have e : [b[q]].filter (fun x => decide (mostL kept < x.1)) = [] := List.filter_cons_of_neg (p := fun x : Nat × Nat => decide (mostL kept < x.1)) (by simpa using hm)
  rw [h, List.take_succ_eq_append_getElem hq, List.filter_append, e, List.append_nil]
theorem NewI.done {kept b cur : List (Nat × Nat)} (h : NewI kept b b.length cur) : cur = kept ++ newsL kept b := by unfold NewI at h; rwa [List.take_length] at h
theorem NewI.lens {kept b cur : List (Nat × Nat)} {q : Nat} (h : NewI kept b q cur) : cur.length ≤ kept.length + b.length := by
  have h2 := List.length_filter_le (fun x : Nat × Nat => decide (mostL kept < x.1)) (b.take q)
  rw [List.length_take] at h2
  unfold NewI at h
  rw [h, List.length_append]; omega
/-- the loop of the fetches, q rows looked at -/
structure FetI (kept b news T : List (Nat × Nat)) (q : Nat) (cur : List (Nat × Nat)) (rps : List Rp) : Prop where
  cur : cur = (kept.take q).map (turnR b) ++ (kept.drop q ++ news)
  say : rps.map Rp.say ++ fetR b (kept.drop q) q = T
theorem FetI.still {kept b news T cur : List (Nat × Nat)} {q : Nat} {rps : List Rp} (h : FetI kept b news T q cur rps) (hq : q < kept.length) (hs : turnR b kept[q] = kept[q]) : FetI kept b news T (q + 1) cur rps := by
  refine ⟨?_, ?_⟩
  · rw [h.cur, List.take_succ_eq_append_getElem hq, List.map_append, List.drop_eq_getElem_cons hq, List.map_singleton, hs]
    simp only [List.cons_append, List.append_assoc, List.nil_append]
  · have := h.say
    rw [List.drop_eq_getElem_cons hq] at this
    unfold fetR at this
    rwa [if_pos hs] at this
theorem FetI.turn {kept b news T cur : List (Nat × Nat)} {q : Nat} {rps : List Rp} (h : FetI kept b news T q cur rps) (hq : q < kept.length) (hs : turnR b kept[q] ≠ kept[q]) (y : Rp) (hy : y.say = (14, q + 1)) : FetI kept b news T (q + 1) (cur.set q (turnR b kept[q])) (rps ++ [y]) := by
  have hl : ((kept.take q).map (turnR b)).length = q := by rw [List.length_map, List.length_take]; omega
  refine ⟨?_, ?_⟩
  · rw [h.cur, List.set_append_right _ _ (by omega), hl, Nat.sub_self, List.take_succ_eq_append_getElem hq, List.map_append, List.append_assoc, List.map_singleton]
    congr 1
    rw [List.drop_eq_getElem_cons hq]
    rfl
  · have := h.say
    rw [List.drop_eq_getElem_cons hq] at this
    unfold fetR at this
    rw [if_neg hs] at this
    rw [List.map_append, List.append_assoc, ← this]
    simp [hy]
theorem FetI.at_ {kept b news T cur : List (Nat × Nat)} {q : Nat} {rps : List Rp} (h : FetI kept b news T q cur rps) (hq : q < kept.length) : ∃ hc : q < cur.length, cur[q] = kept[q] := by
  have hl : ((kept.take q).map (turnR b)).length = q := by rw [List.length_map, List.length_take]; omega
  have hc : q < cur.length := by rw [h.cur, List.length_append, List.length_append, hl, List.length_drop]; omega
  refine ⟨hc, ?_⟩
  have := h.cur
  subst this
  rw [List.getElem_append_right (by omega), List.getElem_append_left (by rw [List.length_drop]; omega)]
  simp only [hl, List.getElem_drop, Nat.sub_self, Nat.add_zero]
theorem fetR_len (b : List (Nat × Nat)) : ∀ (l : List (Nat × Nat)) (k : Nat), (fetR b l k).length ≤ l.length
  | [], _ => Nat.le_refl _
  | r :: t, k => by
    have := fetR_len b t (k + 1)
    unfold fetR
    split
    · rw [List.length_cons]; omega
    · rw [List.length_cons, List.length_cons]; omega
theorem FetI.done {kept b news T cur : List (Nat × Nat)} {rps : List Rp} (h : FetI kept b news T kept.length cur rps) : cur = kept.map (turnR b) ++ news ∧ rps.map Rp.say = T := by
  refine ⟨?_, ?_⟩
  · have := h.cur; simpa using this
  · have := h.say; rw [List.drop_length] at this; unfold fetR at this; rwa [List.append_nil] at this
theorem FetI.lens {kept b news T cur : List (Nat × Nat)} {q : Nat} {rps : List Rp} (h : FetI kept b news T q cur rps) : rps.length ≤ T.length ∧ cur.length = kept.length + news.length := by
  have h3 := congrArg List.length h.say
  rw [List.length_append, List.length_map] at h3
  refine ⟨by omega, ?_⟩
  rw [h.cur, List.length_append, List.length_append, List.length_map, List.length_take, List.length_drop]; omega
theorem turnR_none {b : List (Nat × Nat)} {r : Nat × Nat} (h : modAt b r.1 = none) : turnR b r = r := by unfold turnR; rw [h]
theorem turnR_some {b : List (Nat × Nat)} {r : Nat × Nat} {m : Nat} (h : modAt b r.1 = some m) : turnR b r = (r.1, m) := by unfold turnR; rw [h]
theorem keptL_len (l b : List (Nat × Nat)) (e : Bool) : (keptL l b e).length ≤ l.length := by
  unfold keptL
  split
  · exact List.length_filter_le _ _
  · exact Nat.le_refl _
theorem newsL_len (l b : List (Nat × Nat)) : (newsL l b).length ≤ b.length := List.length_filter_le _ _
theorem tellR_len (l b : List (Nat × Nat)) (e : Bool) : (tellR l b e).length ≤ l.length + 1 + l.length := by
  have h1 := keptL_len l b e
  have h2 := fetR_len b (keptL l b e) 0
  have h3 := expR_len l b l.length
  unfold tellR
  rw [List.length_append, List.length_append]
  have h4 : (if e then expR l b l.length else []).length ≤ l.length := by
    split
    · exact h3
    · simp
  have h5 : (if newsL (keptL l b e) b = [] then [] else [(8, (keptL l b e).length + (newsL (keptL l b e) b).length)]).length ≤ 1 := by
    split <;> simp
  omega
/-- what of a value counts here -/
structure Vl where
  kind : Nat
  n : Nat
  a : Option Addr
  l : Nat
  c : Nat
def vlCells (y : Vl) : List Value := [.int .i64 y.kind, .int .u64 y.n, .slice y.a y.l y.c, .string ⟨#[]⟩, .bool false, .int .u64 0]
def vlT : RT Vl where
  enc := vlCells
  K := 6
  t := 83
  ts := 49
  z := .agg #[.int .i64 0, .int .u64 0, .slice none 0 0, .string ⟨#[]⟩, .bool false, .int .u64 0]
  bytes := 72
  len := fun _ => rfl
  one := fun x u hu => by simp [vlCells] at hu; rcases hu with rfl | rfl | rfl | rfl | rfl | rfl <;> rfl
  pos := by decide
  und := Tryz.underlying49
  info := by kernel_rfl
  zs := rfl
  bb := by decide
/-- what Sync hands back where the mailbox is the view's -/
def SyncRet (W : World) (s : ByteArray) (val : Nat) (l b : List (Nat × Nat)) (expunge : Bool) (e : Ending) (w' : World) : Prop :=
  ∃ (vr vo : Value) (rps : List Rp), e = .returned (.tuple #[.agg #[.string s, .int .u64 val, vr], vo]) ∧ Hid (Zoo W w' [rpT.row vo rps, rowT.rowC vr (syncL l b expunge)]) ∧ Hid (rps.map Rp.say = tellR l b expunge)
end Go.Proofs.YtcnebfmlelcliaaGreat
