/- Sync as plain laws: what is told once is not told again (ViewQuiet: sync_still); a view that is told has just the letters (ViewFollows: sync_all, sync_follows); who counts by the replies (ViewCounts: run_tell). How INBOX comes of what it was behind operations; what ViewFollows and ViewQuiet ask of it: plain. A region that draws its order, where one operation of the head turns the condition. begun of layer 22: walked. -/
import Derived.Test.YtcnebfmlelcliaaGreatB20
import Derived.Test.YtcnebfmlelcliaaGreatB01
namespace Go.Proofs.YtcnebfmlelcliaaGreat
theorem foldmax_le {l : List (Nat × Nat)} : ∀ {m : Nat}, m ≤ l.foldl (fun m r => max m r.1) m := by
  induction l with
  | nil => exact Nat.le_refl _
  | cons r t ih => intro m; exact Nat.le_trans (Nat.le_max_left m r.1) ih
theorem foldmax_mem {l : List (Nat × Nat)} {r : Nat × Nat} (h : r ∈ l) : ∀ {m : Nat}, r.1 ≤ l.foldl (fun m r => max m r.1) m := by
  induction l with
  | nil => cases h
  | cons x t ih =>
    intro m
    rcases List.mem_cons.1 h with rfl | h
    · exact Nat.le_trans (Nat.le_max_right m r.1) foldmax_le
    · exact ih h
theorem foldmax_up {l : List (Nat × Nat)} {n : Nat} (h : ∀ r ∈ l, r.1 ≤ n) : ∀ {m : Nat}, m ≤ n → l.foldl (fun m r => max m r.1) m ≤ n := by
  induction l with
  | nil => exact fun h => h
  | cons x t ih => intro m hm; exact ih (fun r hr => h r (List.mem_cons_of_mem _ hr)) (Nat.max_le.2 ⟨hm, h x List.mem_cons_self⟩)
theorem mostL_mem {l : List (Nat × Nat)} {r : Nat × Nat} (h : r ∈ l) : r.1 ≤ mostL l := foldmax_mem h
theorem mostL_le {l : List (Nat × Nat)} {n : Nat} (h : ∀ r ∈ l, r.1 ≤ n) : mostL l ≤ n := foldmax_up h (Nat.zero_le _)
/-- the Mod of the first letter of a Uid -/
def modAt (b : List (Nat × Nat)) (u : Nat) : Option Nat := (b.find? (fun x => x.1 == u)).map Prod.snd
def keptL (l b : List (Nat × Nat)) (expunge : Bool) : List (Nat × Nat) := if expunge then l.filter (fun r => (modAt b r.1).isSome) else l
def newsL (k b : List (Nat × Nat)) : List (Nat × Nat) := b.filter (fun x => decide (mostL k < x.1))
def turnR (b : List (Nat × Nat)) (r : Nat × Nat) : Nat × Nat := match modAt b r.1 with
  | some m => (r.1, m)
  | none => r
/-- the rows that Sync leaves -/
def syncL (l b : List (Nat × Nat)) (expunge : Bool) : List (Nat × Nat) := (keptL l b expunge).map (turnR b) ++ newsL (keptL l b expunge) b
/-- is nothing told? -/
def stillL (l b : List (Nat × Nat)) (expunge : Bool) : Prop := keptL l b expunge = l ∧ newsL l b = [] ∧ ∀ r ∈ l, turnR b r = r
theorem modAt_mem {b : List (Nat × Nat)} (hb : b.Pairwise (fun x y => x.1 < y.1)) {x : Nat × Nat} (hx : x ∈ b) : modAt b x.1 = some x.2 := by
  unfold modAt
  induction b with
  | nil => cases hx
  | cons y t ih =>
    rw [List.pairwise_cons] at hb
    rcases List.mem_cons.1 hx with rfl | ht
    · simp [List.find?]
    · have hlt := hb.1 x ht
      have hne : (y.1 == x.1) = false := by simp; omega
      simp only [List.find?, hne]
      exact ih hb.2 ht
theorem turnR_fst (b : List (Nat × Nat)) (r : Nat × Nat) : (turnR b r).1 = r.1 := by
  unfold turnR; split <;> rfl
theorem turnR_twice (b : List (Nat × Nat)) (r : Nat × Nat) : turnR b (turnR b r) = turnR b r := by
  cases h : modAt b r.1 with
  | none => have e : turnR b r = r := by unfold turnR; rw [h]
            rw [e, e]
  | some m => have e : turnR b r = (r.1, m) := by unfold turnR; rw [h]
              rw [e]; unfold turnR; simp only [h]

theorem sync_still {l b : List (Nat × Nat)} {expunge : Bool} (hb : b.Pairwise (fun x y => x.1 < y.1)) : stillL (syncL l b expunge) b expunge := by
  have hrow : ∀ r ∈ syncL l b expunge, turnR b r = r := fun r hr => by
    unfold syncL at hr
    rcases List.mem_append.1 hr with h | h
    · obtain ⟨r0, -, rfl⟩ := List.mem_map.1 h
      exact turnR_twice b r0
    · have hm := (List.mem_filter.1 h).1
      unfold turnR; rw [modAt_mem hb hm]
  refine ⟨?_, ?_, hrow⟩
  · unfold keptL
    cases expunge with
    | false => rfl
    | true =>
      simp only [if_true]
      refine List.filter_eq_self.2 (fun r hr => ?_)
      unfold syncL at hr
      rcases List.mem_append.1 hr with h | h
      · obtain ⟨r0, h0, rfl⟩ := List.mem_map.1 h
        rw [turnR_fst]
        unfold keptL at h0
        simp only [if_true] at h0
        exact (List.mem_filter.1 h0).2
      · rw [modAt_mem hb (List.mem_filter.1 h).1]; rfl
  · unfold newsL
    refine List.filter_eq_nil_iff.2 (fun x hx => ?_)
    simp only [decide_eq_true_eq, Nat.not_lt]
    by_cases hlt : mostL (keptL l b expunge) < x.1
    · refine mostL_mem (List.mem_append.2 (Or.inr ?_))
      exact List.mem_filter.2 ⟨hx, decide_eq_true hlt⟩
    · refine Nat.le_trans (Nat.le_of_not_lt hlt) ?_
      refine mostL_le (fun r hr => ?_)
      have := mostL_mem (l := syncL l b expunge) (r := turnR b r) (List.mem_append.2 (Or.inl (List.mem_map.2 ⟨r, hr, rfl⟩)))
      rwa [turnR_fst] at this
theorem rising_ext : ∀ {l k : List (Nat × Nat)}, l.Pairwise (fun x y => x.1 < y.1) → k.Pairwise (fun x y => x.1 < y.1) → (∀ x, x ∈ l ↔ x ∈ k) → l = k
  | [], [], _, _, _ => rfl
  | [], y :: t, _, _, h => absurd ((h y).2 List.mem_cons_self) (by simp)
  | x :: s, [], _, _, h => absurd ((h x).1 List.mem_cons_self) (by simp)
  | x :: s, y :: t, hl, hk, h => by
    rw [List.pairwise_cons] at hl hk
    have exy : x = y := by
      rcases List.mem_cons.1 ((h x).1 List.mem_cons_self) with e | e
      · exact e
      · rcases List.mem_cons.1 ((h y).2 List.mem_cons_self) with e2 | e2
        · exact e2.symm
        · have := hl.1 y e2; have := hk.1 x e; omega
    subst exy
    refine congrArg (x :: ·) (rising_ext hl.2 hk.2 fun z => ⟨fun hz => ?_, fun hz => ?_⟩)
    · rcases List.mem_cons.1 ((h z).1 (List.mem_cons_of_mem _ hz)) with rfl | e
      · exact absurd (hl.1 z hz) (Nat.lt_irrefl _)
      · exact e
    · rcases List.mem_cons.1 ((h z).2 (List.mem_cons_of_mem _ hz)) with rfl | e
      · exact absurd (hk.1 z hz) (Nat.lt_irrefl _)
      · exact e
theorem modAt_some {b : List (Nat × Nat)} {u m : Nat} (h : modAt b u = some m) : (u, m) ∈ b := by
  unfold modAt at h
  cases e : b.find? (fun x => x.1 == u) with
  | none => rw [e] at h; cases h
  | some x =>
    rw [e] at h
    have h1 := List.mem_of_find?_eq_some e
    have h2 := List.find?_some e
    injection h with h
    simp only [beq_iff_eq] at h2
    have : x = (u, m) := Prod.ext h2 h
    rwa [← this]
theorem rising_split {b : List (Nat × Nat)} (hb : b.Pairwise (fun x y => x.1 < y.1)) (n : Nat) : b.filter (fun x => decide (x.1 ≤ n)) ++ b.filter (fun x => decide (n < x.1)) = b := by
  refine rising_ext (List.pairwise_append.2 ⟨hb.filter _, hb.filter _, fun x hx y hy => ?_⟩) hb fun x => ?_
  · have h1 := (List.mem_filter.1 hx).2
    have h2 := (List.mem_filter.1 hy).2
    simp only [decide_eq_true_eq] at h1 h2
    omega
  · rw [List.mem_append, List.mem_filter, List.mem_filter]
    simp only [decide_eq_true_eq]
    refine ⟨fun h => h.elim And.left And.left, fun h => ?_⟩
    rcases Nat.lt_or_ge n x.1 with h2 | h2
    · exact .inr ⟨h, h2⟩
    · exact .inl ⟨h, h2⟩
/-- a view whose rows know all letters up to its last: a Sync with expunges leaves the mailbox's letters -/
theorem sync_all {l b : List (Nat × Nat)} (hl : l.Pairwise (fun x y => x.1 < y.1)) (hb : b.Pairwise (fun x y => x.1 < y.1)) (hk : ∀ x ∈ b, x.1 ≤ mostL l → ∃ r ∈ l, r.1 = x.1) : syncL l b true = b := by
  have hkl : ∀ r, r ∈ keptL l b true ↔ r ∈ l ∧ (modAt b r.1).isSome = true := fun r => by
    unfold keptL; simp only [if_true]; exact List.mem_filter
  have hm : mostL (keptL l b true) ≤ mostL l := mostL_le fun r hr => mostL_mem ((hkl r).1 hr).1
  unfold syncL newsL
  have e : (keptL l b true).map (turnR b) = b.filter (fun x => decide (x.1 ≤ mostL (keptL l b true))) := by
    refine rising_ext ?_ (hb.filter _) fun x => ?_
    · rw [List.pairwise_map]
      have : (keptL l b true).Pairwise (fun x y => x.1 < y.1) := by unfold keptL; simp only [if_true]; exact hl.filter _
      exact this.imp fun {a c} h => by rw [turnR_fst, turnR_fst]; exact h
    · rw [List.mem_map, List.mem_filter]
      simp only [decide_eq_true_eq]
      constructor
      · rintro ⟨r, hr, rfl⟩
        obtain ⟨h1, h2⟩ := (hkl r).1 hr
        obtain ⟨m, e⟩ := Option.isSome_iff_exists.1 h2
        have et : turnR b r = (r.1, m) := by unfold turnR; rw [e]
        rw [et]
        exact ⟨modAt_some e, (mostL_mem hr : r.1 ≤ mostL (keptL l b true))⟩
      · rintro ⟨hx, hle⟩
        obtain ⟨r, hr, e⟩ := hk x hx (Nat.le_trans hle hm)
        have hmo := modAt_mem hb hx
        refine ⟨r, (hkl r).2 ⟨hr, by rw [e, hmo]; rfl⟩, ?_⟩
        unfold turnR; rw [e, hmo]
  rw [e]
  exact rising_split hb _
theorem mostL_lt {l : List (Nat × Nat)} {n : Nat} (h : ∀ r ∈ l, r.1 < n) (h0 : 0 < n) : mostL l < n := by
  have := mostL_le (l := l) (n := n - 1) fun r hr => by have := h r hr; omega
  omega
/-- ViewFollows: a view of a mailbox as it was, told of it as it is (no expunges), and told again later (expunges, too), has just its letters -/
theorem sync_follows {o0 o1 o2 : List (Nat × Nat)} {n0 n1 : Nat} (hr0 : o0.Pairwise (fun x y => x.1 < y.1)) (hr1 : o1.Pairwise (fun x y => x.1 < y.1)) (hr2 : o2.Pairwise (fun x y => x.1 < y.1)) (h0 : ∀ x ∈ o0, x.1 < n0) (h1 : ∀ x ∈ o1, x.1 < n1) (hn : n0 ≤ n1) (hp : 0 < n0)
    (h01 : ∀ x ∈ o1, x.1 < n0 → ∃ y ∈ o0, y.1 = x.1) (h12 : ∀ x ∈ o2, x.1 < n1 → ∃ y ∈ o1, y.1 = x.1) : syncL (syncL o0 o1 false) o2 true = o2 := by
  have hw : syncL o0 o1 false = o0.map (turnR o1) ++ newsL o0 o1 := by unfold syncL keptL; rfl
  have hlt : ∀ r ∈ syncL o0 o1 false, r.1 < n1 := fun r hr => by
    rw [hw] at hr
    rcases List.mem_append.1 hr with h | h
    · obtain ⟨r0, hr0', rfl⟩ := List.mem_map.1 h
      rw [turnR_fst]
      exact Nat.lt_of_lt_of_le (h0 r0 hr0') hn
    · exact h1 r (List.mem_filter.1 h).1
  refine sync_all ?_ hr2 (fun x hx hle => ?_)
  · rw [hw]
    refine List.pairwise_append.2 ⟨?_, hr1.filter _, fun a ha c hc => ?_⟩
    · rw [List.pairwise_map]
      exact hr0.imp fun {a c} h => by rw [turnR_fst, turnR_fst]; exact h
    · obtain ⟨r0, hr0', rfl⟩ := List.mem_map.1 ha
      rw [turnR_fst]
      have h2 := (List.mem_filter.1 hc).2
      simp only [decide_eq_true_eq] at h2
      exact Nat.lt_of_le_of_lt (mostL_mem hr0') h2
  · have hx1 : x.1 < n1 := Nat.lt_of_le_of_lt hle (mostL_lt hlt (Nat.lt_of_lt_of_le hp hn))
    obtain ⟨y, hy, e⟩ := h12 x hx hx1
    rw [hw]
    by_cases hm : mostL o0 < y.1
    · exact ⟨y, List.mem_append.2 (.inr (List.mem_filter.2 ⟨hy, decide_eq_true hm⟩)), e⟩
    · obtain ⟨z, hz', e2⟩ := h01 y hy (Nat.lt_of_le_of_lt (Nat.le_of_not_lt hm) (mostL_lt h0 hp))
      exact ⟨turnR o1 z, List.mem_append.2 (.inl (List.mem_map.2 ⟨z, hz', rfl⟩)), by rw [turnR_fst, e2, e]⟩
/-- who counts by the replies (9: expunge, 8: exists, 14: fetch): none if a reply is of a message that isn't there -/
def runR (ex : Bool) : Nat → List (Nat × Nat) → Option Nat
  | n, [] => some n
  | n, (k, N) :: t => if k = 9 then (if N < 1 ∨ n < N ∨ ex = false then none else runR ex (n - 1) t)
    else if k = 8 then (if N ≤ n then none else runR ex N t)
    else if k = 14 then (if N < 1 ∨ n < N then none else runR ex n t) else runR ex n t
/-- the expunges of the first k rows, from the last one down -/
def expR (l b : List (Nat × Nat)) : Nat → List (Nat × Nat)
  | 0 => []
  | k + 1 => if (modAt b (l[k]?.getD (0, 0)).1).isSome then expR l b k else (9, k + 1) :: expR l b k
/-- the fetches of the rows from k on -/
def fetR (b : List (Nat × Nat)) : List (Nat × Nat) → Nat → List (Nat × Nat)
  | [], _ => []
  | r :: t, k => if turnR b r = r then fetR b t (k + 1) else (14, k + 1) :: fetR b t (k + 1)
def tellR (l b : List (Nat × Nat)) (expunge : Bool) : List (Nat × Nat) := (if expunge then expR l b l.length else []) ++ ((if newsL (keptL l b expunge) b = [] then [] else [(8, (keptL l b expunge).length + (newsL (keptL l b expunge) b).length)]) ++ fetR b (keptL l b expunge) 0)
theorem run_exp (l b t : List (Nat × Nat)) : ∀ (k c : Nat), k ≤ l.length → runR true (k + c) (expR l b k ++ t) = runR true (((l.take k).filter (fun r => (modAt b r.1).isSome)).length + c) t := by
  intro k
  induction k with
  | zero => intro c _; simp [expR]
  | succ k ih =>
    intro c hk
    have hk' : k < l.length := hk
    have hg : l[k]?.getD (0, 0) = l[k] := by rw [List.getElem?_eq_getElem hk']; rfl
    rw [List.take_succ_eq_append_getElem hk', List.filter_append, List.length_append]
    unfold expR
    rw [hg]
    by_cases h : (modAt b l[k].1).isSome = true
    · have e1 : [l[k]].filter (fun r => (modAt b r.1).isSome) = [l[k]] := List.filter_cons_of_pos (p := fun r : Nat × Nat => (modAt b r.1).isSome) h
      rw [if_pos h, e1, show k + 1 + c = k + (c + 1) from by omega]
      rw [ih (c + 1) (Nat.le_of_lt hk')]
      congr 1
      simp only [List.length_singleton]; omega
    · have e1 : [l[k]].filter (fun r => (modAt b r.1).isSome) = [] := List.filter_cons_of_neg (p := fun r : Nat × Nat => (modAt b r.1).isSome) h
      rw [if_neg h, e1]
      simp only [List.cons_append, runR, if_true]
      rw [if_neg (by simp)]
      rw [show k + 1 + c - 1 = k + c from by omega, ih c (Nat.le_of_lt hk')]
      rfl
theorem run_fet (ex : Bool) (b : List (Nat × Nat)) (n : Nat) : ∀ (l : List (Nat × Nat)) (k : Nat), k + l.length ≤ n → runR ex n (fetR b l k) = some n := by
  intro l
  induction l with
  | nil => intro k _; rfl
  | cons r t ih =>
    intro k hk
    have hk2 : k + 1 + t.length ≤ n := by simp only [List.length_cons] at hk; omega
    unfold fetR
    by_cases h : turnR b r = r
    · rw [if_pos h]; exact ih (k + 1) hk2
    · rw [if_neg h]
      unfold runR
      rw [if_neg (by decide), if_neg (by decide), if_pos rfl, if_neg (by omega)]
      exact ih (k + 1) hk2
theorem run_tell (l b : List (Nat × Nat)) (expunge : Bool) : runR expunge l.length (tellR l b expunge) = some (syncL l b expunge).length := by
  have hlen : (syncL l b expunge).length = (keptL l b expunge).length + (newsL (keptL l b expunge) b).length := by unfold syncL; rw [List.length_append, List.length_map]
  have hrest : runR expunge (keptL l b expunge).length ((if newsL (keptL l b expunge) b = [] then [] else [(8, (keptL l b expunge).length + (newsL (keptL l b expunge) b).length)]) ++ fetR b (keptL l b expunge) 0) = some (syncL l b expunge).length := by
    rw [hlen]
    by_cases h : newsL (keptL l b expunge) b = []
    · rw [if_pos h, h]
      exact run_fet _ _ _ _ 0 (by simp)
    · rw [if_neg h]
      have hp : 0 < (newsL (keptL l b expunge) b).length := List.length_pos_iff.2 h
      simp only [List.cons_append, List.nil_append, runR]
      rw [if_neg (by decide), if_pos trivial, if_neg (by omega)]
      exact run_fet _ _ _ _ 0 (by omega)
  unfold tellR
  cases expunge with
  | false => exact hrest
  | true =>
    have := run_exp l b ((if newsL (keptL l b true) b = [] then [] else [(8, (keptL l b true).length + (newsL (keptL l b true) b).length)]) ++ fetR b (keptL l b true) 0) l.length 0 (Nat.le_refl _)
    rw [Nat.add_zero, List.take_length] at this
    exact this.trans hrest
end Go.Proofs.YtcnebfmlelcliaaGreat
namespace Go.Proofs.YtcnebfmlelcliaaGreat
/-- the state behind operations -/
def laterM (m : Ml) (qs : List Rq) : Ml := qs.foldl (fun m q => (applyM m q).1) m
theorem laterM_snoc (m : Ml) (qs : List Rq) (q : Rq) : laterM m (qs ++ [q]) = (applyM (laterM m qs) q).1 := by unfold laterM; rw [List.foldl_append]; rfl
theorem EvoB.trans {a b c : Bx} (h : EvoB a b) (k : EvoB b c) : EvoB a c := ⟨k.name.trans h.name, k.val.trans h.val, Nat.le_trans h.next k.next, Nat.le_trans h.high k.high, fun x hx => by
  rcases k.lets x hx with ⟨z, hz, e1, e2⟩ | h1
  · rcases h.lets z hz with ⟨y, hy, e3, e4⟩ | h2
    · exact .inl ⟨y, hy, e3.trans e1, e4.trans e2⟩
    · exact .inr (by rw [← e1]; exact h2)
  · exact .inr (Nat.le_trans h.next h1)⟩
def inboxS : ByteArray := ⟨inboxL.toArray⟩
theorem findM_mem {m : Ml} {n : ByteArray} {b : Bx} (h : findM m n = some b) : b ∈ m.boxes ∧ b.name = n := by
  unfold findM at h
  have h1 := List.find?_some h
  exact ⟨List.mem_of_find?_eq_some h, toList_inj_ (eq_of_beq h1)⟩
theorem right_inbox {m : Ml} (h : RightP m) : ∃ b, findM m inboxS = some b := by
  obtain ⟨b, hb, hn⟩ := h.inbox
  have e : b.name = inboxS := toList_inj_ (by rw [ByteArray.toList_eq, ByteArray.toList_eq, hn]; rfl)
  exact ⟨b, e ▸ find_in h hb⟩
theorem apply_inbox {m : Ml} (q : Rq) (h : RightP m) {b : Bx} (hb : findM m inboxS = some b) : ∃ t, findM (applyM m q).1 inboxS = some t ∧ EvoB b t := by
  obtain ⟨t, ht⟩ := right_inbox (apply_right q h)
  refine ⟨t, ht, ?_⟩
  obtain ⟨h1, h2⟩ := findM_mem ht
  obtain ⟨h3, h4⟩ := findM_mem hb
  rcases (apply_evo m q).boxes t h1 with ⟨b', hb', he⟩ | ⟨-, hno⟩
  · have := box_uniq h hb' h3 (he.name.symm.trans (h2.trans h4.symm))
    subst this
    exact he
  · exact absurd (h4.trans h2.symm) (hno b h3)
theorem later_right {m : Ml} (h : RightP m) : ∀ qs, RightP (laterM m qs) := by
  intro qs
  induction qs generalizing m with
  | nil => exact h
  | cons q t ih => exact ih (apply_right q h)
theorem later_inbox {m : Ml} (h : RightP m) {b : Bx} (hb : findM m inboxS = some b) : ∀ qs, ∃ t, findM (laterM m qs) inboxS = some t ∧ EvoB b t := by
  intro qs
  induction qs generalizing m b with
  | nil => exact ⟨b, hb, .refl b⟩
  | cons q t ih =>
    obtain ⟨c, hc, he⟩ := apply_inbox q h hb
    obtain ⟨d, hd, hf⟩ := ih (apply_right q h) hc
    exact ⟨d, hd, he.trans hf⟩
/-- a mailbox's letters, as a view has them -/
def rowsB (b : Bx) : List (Nat × Nat) := b.letters.map fun x => (x.uid, x.mod)
theorem rowsB_up {b : Bx} {n : Nat} (h : BoxP b n) : (rowsB b).Pairwise (fun x y => x.1 < y.1) := by
  unfold rowsB
  rw [List.pairwise_map]
  exact h.up
theorem rowsB_lt {b : Bx} {n : Nat} (h : BoxP b n) : ∀ x ∈ rowsB b, x.1 < b.next := fun x hx => by
  obtain ⟨y, hy, rfl⟩ := List.mem_map.1 hx
  exact (h.lets y hy).u2
theorem rowsB_old {b t : Bx} (h : EvoB b t) : ∀ x ∈ rowsB t, x.1 < b.next → ∃ y ∈ rowsB b, y.1 = x.1 := fun x hx hl => by
  obtain ⟨y, hy, rfl⟩ := List.mem_map.1 hx
  rcases h.lets y hy with ⟨z, hz, e, -⟩ | h2
  · exact ⟨_, List.mem_map.2 ⟨z, hz, rfl⟩, e⟩
  · exact absurd hl (Nat.not_lt.2 h2)
theorem view_follows {a b c : Bx} {n n2 n3 : Nat} (ha : BoxP a n) (hb : BoxP b n2) (hc : BoxP c n3) (h1 : EvoB a b) (h2 : EvoB b c) : syncL (syncL (rowsB a) (rowsB b) false) (rowsB c) true = rowsB c :=
  sync_follows (rowsB_up ha) (rowsB_up hb) (rowsB_up hc) (rowsB_lt ha) (rowsB_lt hb) h1.next ha.n1 (rowsB_old h1) (rowsB_old h2)
theorem still_sync {l b : List (Nat × Nat)} {e : Bool} (h : stillL l b e) : syncL l b e = l := by
  obtain ⟨h1, h2, h3⟩ := h
  unfold syncL
  rw [h1, h2, List.append_nil]
  have e : l.map (turnR b) = l.map id := List.map_congr_left (fun r hr => h3 r hr)
  rw [e, List.map_id]
theorem expR_nil {l b : List (Nat × Nat)} (h : ∀ r ∈ l, (modAt b r.1).isSome = true) : ∀ k, k ≤ l.length → expR l b k = [] := by
  intro k
  induction k with
  | zero => exact fun _ => rfl
  | succ k ih =>
    intro hk
    have hg : l[k]?.getD (0, 0) = l[k] := by rw [List.getElem?_eq_getElem hk]; rfl
    unfold expR
    rw [hg, if_pos (h _ (List.getElem_mem _)), ih (Nat.le_of_lt hk)]
theorem fetR_nil {b : List (Nat × Nat)} : ∀ (l : List (Nat × Nat)) (k : Nat), (∀ r ∈ l, turnR b r = r) → fetR b l k = [] := by
  intro l
  induction l with
  | nil => exact fun _ _ => rfl
  | cons r t ih =>
    intro k h
    unfold fetR
    rw [if_pos (h r List.mem_cons_self)]
    exact ih (k + 1) (fun x hx => h x (List.mem_cons_of_mem _ hx))
theorem still_tell {l b : List (Nat × Nat)} {e : Bool} (h : stillL l b e) : tellR l b e = [] := by
  obtain ⟨h1, h2, h3⟩ := h
  have h4 : (if e then expR l b l.length else []) = [] := by
    cases e with
    | false => rfl
    | true =>
      refine expR_nil (fun r hr => ?_) _ (Nat.le_refl _)
      unfold keptL at h1
      simp only [if_true] at h1
      exact List.filter_eq_self.1 h1 r hr
  unfold tellR
  rw [h4, h1, if_pos h2, fetR_nil l 0 h3]
  rfl
theorem tell_no9 {l b : List (Nat × Nat)} : ∀ r ∈ tellR l b false, r.1 ≠ 9 := fun r hr => by
  have hf : ∀ (l : List (Nat × Nat)) (k : Nat), ∀ r ∈ fetR b l k, r.1 ≠ 9 := by
    intro l
    induction l with
    | nil => intro k r hr; cases hr
    | cons x t ih =>
      intro k r hr
      unfold fetR at hr
      split at hr
      · exact ih _ r hr
      · rcases List.mem_cons.1 hr with rfl | hr
        · show (14 : Nat) ≠ 9
          decide
        · exact ih _ r hr
  unfold tellR at hr
  simp only [Bool.false_eq_true, if_false, List.nil_append] at hr
  rcases List.mem_append.1 hr with h | h
  · split at h
    · cases h
    · rw [List.mem_singleton.1 h]
      show (8 : Nat) ≠ 9
      decide
  · exact hf _ _ r h
end Go.Proofs.YtcnebfmlelcliaaGreat
namespace Go.Proofs.YtcnebfmlelcliaaGreat
set_option linter.unusedSimpArgs false
open Go.RowKit

/-- the tail waits for all the head, or there is none -/
def tailOk (md : Region.Mode) (ops : Array Oper) (n : Nat) : Bool := decide (ops.size ≤ n) || (Region.sinkB md ops n && chB md ops n)
theorem tail_waits2 {md : Region.Mode} {ops : Array Oper} {n : Nat} {listed : Array Bool} (hs : tailOk md ops n = true) (inv : HeadInv md ops n listed) {i : Nat} (hi : i < n) (hun : listed.getD i true = false) : ∀ t, n ≤ t → t ∉ Region.ready md ops listed := by
  unfold tailOk at hs
  simp only [Bool.or_eq_true, Bool.and_eq_true, decide_eq_true_eq] at hs
  rcases hs with hs | ⟨h1, h2⟩
  · intro t ht hr
    obtain ⟨_, ot, hot, _⟩ := mem_ready.1 hr
    have := (Array.getElem?_eq_some_iff.1 hot).1
    omega
  · exact tail_waits' h1 h2 inv _ i rfl hi hun
structure HdOkP (ops : Array Oper) (n : Nat) : Prop where
  sel : Region.noSelect ops = true
  tail : tailOk .any ops n = true
section
variable {P : Program} {ops : Array Oper} {Q : Exit → Act → World → Prop} {md : Region.Mode} {p : Nat} {S : Bool → World → Prop} {T : Array Bool → Act → World → Prop}
/-- where operation i may be met -/
def SAll (md : Region.Mode) (ops : Array Oper) (n i p : Nat) (S : Bool → World → Prop) : World → Prop := fun w => ∃ l : Array Bool, HeadInv md ops n l ∧ l.getD i true = false ∧ S (l.getD p false) w
/-- an operation that number p waits for is met ahead of p -/
theorem SAll.early {n i : Nat} {w : World} (h : SAll md ops n i p S w) (hw : Region.waitsFor md ops p i = true) : S false w := by
  obtain ⟨l, inv, h0, hS⟩ := h
  cases hl : l.getD p false with
  | false => rw [hl] at hS; exact hS
  | true =>
    obtain ⟨o, ho, e, he, hb, hon⟩ := Region.waitsFor_spec hw
    have h2 := inv.closed p o ho hl e he hb
    rw [hon, getD_both h0] at h2
    cases h2
/-- whatever order is picked among the first n; S holds behind each; then T, and the last g follow in their order -/
def wpHdP (P : Program) (md : Region.Mode) (ops : Array Oper) (Q : Exit → Act → World → Prop) (p : Nat) (S : Bool → World → Prop) (n : Nat) (T : Array Bool → Act → World → Prop) : Nat → Array Bool → Act → World → Prop
  | 0, listed, a, w => lateB md ops n listed = true ∧ T listed a w
  | f + 1, listed, a, w => Region.ready md ops listed ≠ [] ∧ ∀ i ∈ Region.ready md ops listed, i < n ∧ wpOp P ops Q i (fun a' w' => S ((listed.setIfInBounds i true).getD p false) w' ∧ wpHdP P md ops Q p S n T f (listed.setIfInBounds i true) a' w') a w
theorem wpAny_of_hdP {n g : Nat} (hT : ∀ listed a w, T listed a w → wpAny P md ops Q g listed a w) :
    ∀ (f : Nat) (listed : Array Bool) (a : Act) (w : World), wpHdP P md ops Q p S n T f listed a w → wpAny P md ops Q (f + g) listed a w
  | 0, listed, a, w, h => by rw [Nat.zero_add]; exact hT _ _ _ h.2
  | f + 1, listed, a, w, h => by
    rw [show f + 1 + g = (f + g) + 1 by omega]
    exact ⟨fun h0 => absurd h0 h.1, fun i hi => wpOp_mono (fun a' w' h' => wpAny_of_hdP hT f _ a' w' h'.2) (h.2 i hi).2⟩
theorem wpHdP_first {n i : Nat} {oi : Oper} {v : Value} (hi : ops[i]? = some oi) (hsel : ∀ (j : Nat) (o : Oper) cs b, ops[j]? = some o → o.op ≠ .select cs b)
    (hQ : ∀ c a w, Q (.panic c) (a.put oi.dst v) w → Q (.panic c) a w)
    (hs : tailOk md ops n = true) (hin : i < n) :
    ∀ (f : Nat) (listed : Array Bool) (a : Act) (w : World), HeadInv md ops n listed →
      (∀ j oj, ops[j]? = some oj → j ≠ i → listed.getD j true = false → (∀ e ∈ oj.after, Region.binds md e = true → e.on ≠ i) → oi.apart ops oj = true) →
      i ∈ Region.ready md ops listed → i ≠ p → YieldsIf P ops (SAll md ops n i p S) oi v a → S (listed.getD p false) w →
      wpHdP P md ops Q p S n T f (listed.setIfInBounds i true) (a.put oi.dst v) w → wpHdP P md ops Q p S n T (f + 1) listed a w := by
  intro f
  induction f with
  | zero =>
    intro listed a w inv _ hr hip hy hS H
    have hun := (mem_ready.1 hr).1
    refine ⟨fun h => (by rw [h] at hr; cases hr), fun j hj => ?_⟩
    have hjn : j < n := by
      rcases Nat.lt_or_ge j n with h | h
      · exact h
      · exact absurd hj (tail_waits2 hs inv hin hun j h)
    refine ⟨hjn, ?_⟩
    by_cases hji : j = i
    · subst hji; exact hy.wpOp hi ⟨listed, inv, hun, hS⟩ ⟨by rw [getD_set_ne false hip]; exact hS, H⟩
    · have := lateB_spec H.1 j (ready_mono hj hji)
      omega
  | succ f ih =>
    intro listed a w inv hfree hr hip hy hS H
    have hun := (mem_ready.1 hr).1
    refine ⟨fun h => (by rw [h] at hr; cases hr), fun j hj => ?_⟩
    have hjn : j < n := by
      rcases Nat.lt_or_ge j n with h | h
      · exact h
      · exact absurd hj (tail_waits2 hs inv hin hun j h)
    refine ⟨hjn, ?_⟩
    by_cases hji : j = i
    · subst hji; exact hy.wpOp hi ⟨listed, inv, hun, hS⟩ ⟨by rw [getD_set_ne false hip]; exact hS, H⟩
    · have h1 := (H.2 j (ready_mono hj hji)).2
      obtain ⟨hjun, oj, hoj, hall⟩ := mem_ready.1 hj
      have hnot : ∀ e ∈ oj.after, Region.binds md e = true → e.on ≠ i := fun e he hb heq => by
        have h1 := hall e he hb
        rw [heq, getD_both hun] at h1
        cases h1
      have h2 := wpOp_putIf hoj (hfree j oj hoj hji hjun hnot) (fun cs b => hsel i oi cs b hi) (fun cs b => hsel j oj cs b hoj) hQ hy h1
      have hfree' : ∀ k ok, ops[k]? = some ok → k ≠ i → (listed.setIfInBounds j true).getD k true = false →
          (∀ e ∈ ok.after, Region.binds md e = true → e.on ≠ i) → oi.apart ops ok = true := fun k ok hk hki hun hno => by
        refine hfree k ok hk hki ?_ hno
        by_cases hjk : j = k
        · subst hjk; exact hjun
        · rw [getD_set_ne true hjk] at hun; exact hun
      have hSj : ∀ w', S (((listed.setIfInBounds i true).setIfInBounds j true).getD p false) w' → S ((listed.setIfInBounds j true).getD p false) w' := fun w' h => by rw [Array.setIfInBounds_comm _ _ (Ne.symm hji), getD_set_ne false hip] at h; exact h
      refine wpOp_mono (fun a' w' h3 => ⟨hSj _ h3.2.1, ih (listed.setIfInBounds j true) a' w' (inv.set hj hjn) hfree' (ready_mono hr (Ne.symm hji)) hip h3.1 (hSj _ h3.2.1) ?_⟩) h2
      rw [Array.setIfInBounds_comm _ _ hji]
      exact h3.2.2
/-- the goal of a walk by hand: the listed ones are closed -/
def HdP (P : Program) (ops : Array Oper) (Q : Exit → Act → World → Prop) (p : Nat) (S : Bool → World → Prop) (n : Nat) (T : Array Bool → Act → World → Prop) (f : Nat) (listed : Array Bool) (a : Act) (w : World) : Prop :=
  HeadInv .any ops n listed → wpHdP P .any ops Q p S n T f listed a w
/-- number i is taken first -/
theorem HdP.take {n i f : Nat} {oi : Oper} {v : Value} {listed : Array Bool} {a : Act} {w : World} (hok : HdOkP ops n) (hi : ops[i]? = some oi) (hb : (decide (i < n) && ((Region.ready .any ops listed).contains i && Region.free .any ops listed i)) = true)
    (hQ : ∀ c a w, Q (.panic c) (a.put oi.dst v) w → Q (.panic c) a w) (hip : i ≠ p) (hy : YieldsIf P ops (SAll .any ops n i p S) oi v a) (hS : S (listed.getD p false) w)
    (h : HdP P ops Q p S n T f (listed.setIfInBounds i true) (a.put oi.dst v) w) : HdP P ops Q p S n T (f + 1) listed a w := fun inv => by
  simp only [Bool.and_eq_true, decide_eq_true_eq] at hb
  have hr : i ∈ Region.ready .any ops listed := by simpa using hb.2.1
  exact wpHdP_first hi (Region.noSelect_spec hok.sel) hQ hok.tail hb.1 f listed a w inv (Region.free_spec hi hb.2.2) hr hip hy hS (h (inv.set hr hb.1))
/-- one alone may come up -/
theorem HdP.one {n i f : Nat} {oi : Oper} {listed : Array Bool} {a : Act} {w : World} (hi : ops[i]? = some oi) (hb : (decide (i < n) && (Region.ready .any ops listed == [i])) = true)
    (h : ∀ K' : Act → World → Prop, Shut (∀ a w, S ((listed.setIfInBounds i true).getD p false) w → HdP P ops Q p S n T f (listed.setIfInBounds i true) a w → K' a w) → if Region.wanted oi (yielded ops a.tmps) = true then Oper.wp P oi a w K' Q else K' (a.put oi.dst undef) w) : HdP P ops Q p S n T (f + 1) listed a w := fun inv => by
  simp only [Bool.and_eq_true, decide_eq_true_eq, beq_iff_eq] at hb
  have hr : i ∈ Region.ready .any ops listed := by rw [hb.2]; simp
  refine ⟨by rw [hb.2]; simp, fun j hj => ?_⟩
  rw [hb.2] at hj
  obtain rfl : j = i := by simpa using hj
  exact ⟨hb.1, wpOp_step hi (fun K' hK => h K' (fun a w hS hW => hK a w ⟨hS, hW (inv.set hr hb.1)⟩))⟩
/-- two may come up -/
theorem HdP.two {n i k f : Nat} {oi ok : Oper} {listed : Array Bool} {a : Act} {w : World} (hi : ops[i]? = some oi) (hk : ops[k]? = some ok) (hb : (decide (i < n) && (decide (k < n) && (Region.ready .any ops listed == [i, k]))) = true)
    (h : ∀ K' : Act → World → Prop, Shut (∀ a w, S ((listed.setIfInBounds i true).getD p false) w → HdP P ops Q p S n T f (listed.setIfInBounds i true) a w → K' a w) → if Region.wanted oi (yielded ops a.tmps) = true then Oper.wp P oi a w K' Q else K' (a.put oi.dst undef) w)
    (h2 : ∀ K' : Act → World → Prop, Shut (∀ a w, S ((listed.setIfInBounds k true).getD p false) w → HdP P ops Q p S n T f (listed.setIfInBounds k true) a w → K' a w) → if Region.wanted ok (yielded ops a.tmps) = true then Oper.wp P ok a w K' Q else K' (a.put ok.dst undef) w) : HdP P ops Q p S n T (f + 1) listed a w := fun inv => by
  simp only [Bool.and_eq_true, decide_eq_true_eq, beq_iff_eq] at hb
  have hri : i ∈ Region.ready .any ops listed := by rw [hb.2.2]; simp
  have hrk : k ∈ Region.ready .any ops listed := by rw [hb.2.2]; simp
  refine ⟨by rw [hb.2.2]; simp, fun j hj => ?_⟩
  rw [hb.2.2] at hj
  by_cases e : j = i
  · subst e
    exact ⟨hb.1, wpOp_step hi (fun K' hK => h K' (fun a w hS hW => hK a w ⟨hS, hW (inv.set hri hb.1)⟩))⟩
  · obtain rfl : j = k := by
      simp only [List.mem_cons, List.not_mem_nil, or_false] at hj
      rcases hj with h | h
      · exact absurd h e
      · exact h
    exact ⟨hb.2.1, wpOp_step hk (fun K' hK => h2 K' (fun a w hS hW => hK a w ⟨hS, hW (inv.set hrk hb.2.1)⟩))⟩
theorem HdP.fin {n : Nat} {listed : Array Bool} {a : Act} {w : World} (hb : lateB .any ops n listed = true) (h : HeadInv .any ops n listed → T listed a w) : HdP P ops Q p S n T 0 listed a w := fun inv => ⟨hb, h inv⟩
theorem HdP.done {n g : Nat} {l : List Oper} {listed : Array Bool} {a : Act} {w : World} (hb : (lateB .any ops n listed && Region.seqB .any ops g n listed) = true) (h : wpList P ops Q l a w) : HdP P ops Q p S n (TailT P ops Q n g l) 0 listed a w := fun _ => by
  rw [Bool.and_eq_true] at hb
  exact ⟨hb.1, hb.2, h⟩
end
section
variable {P : Program} {ops : Array Oper} {Q : Exit → Act → World → Prop} {S : World → Prop} {T : Array Bool → Act → World → Prop}
/-- three may come up -/
theorem Hd.three {n i k m f : Nat} {oi ok om : Oper} {listed : Array Bool} {a : Act} {w : World} (hi : ops[i]? = some oi) (hk : ops[k]? = some ok) (hm : ops[m]? = some om) (hb : (decide (i < n) && (decide (k < n) && (decide (m < n) && (Region.ready .any ops listed == [i, k, m])))) = true)
    (h : ∀ K' : Act → World → Prop, Shut (∀ a w, S w → Hd P ops Q S n T f (listed.setIfInBounds i true) a w → K' a w) → if Region.wanted oi (yielded ops a.tmps) = true then Oper.wp P oi a w K' Q else K' (a.put oi.dst undef) w)
    (h2 : ∀ K' : Act → World → Prop, Shut (∀ a w, S w → Hd P ops Q S n T f (listed.setIfInBounds k true) a w → K' a w) → if Region.wanted ok (yielded ops a.tmps) = true then Oper.wp P ok a w K' Q else K' (a.put ok.dst undef) w)
    (h3 : ∀ K' : Act → World → Prop, Shut (∀ a w, S w → Hd P ops Q S n T f (listed.setIfInBounds m true) a w → K' a w) → if Region.wanted om (yielded ops a.tmps) = true then Oper.wp P om a w K' Q else K' (a.put om.dst undef) w) : Hd P ops Q S n T (f + 1) listed a w := fun inv => by
  simp only [Bool.and_eq_true, decide_eq_true_eq, beq_iff_eq] at hb
  have hri : i ∈ Region.ready .any ops listed := by rw [hb.2.2.2]; simp
  have hrk : k ∈ Region.ready .any ops listed := by rw [hb.2.2.2]; simp
  have hrm : m ∈ Region.ready .any ops listed := by rw [hb.2.2.2]; simp
  refine ⟨by rw [hb.2.2.2]; simp, fun j hj => ?_⟩
  rw [hb.2.2.2] at hj
  by_cases e : j = i
  · subst e
    exact ⟨hb.1, wpOp_step hi (fun K' hK => h K' (fun a w hS hW => hK a w ⟨hS, hW (inv.set hri hb.1)⟩))⟩
  · by_cases e2 : j = k
    · subst e2
      exact ⟨hb.2.1, wpOp_step hk (fun K' hK => h2 K' (fun a w hS hW => hK a w ⟨hS, hW (inv.set hrk hb.2.1)⟩))⟩
    · obtain rfl : j = m := by
        simp only [List.mem_cons, List.not_mem_nil, or_false] at hj
        rcases hj with h | h | h
        · exact absurd h e
        · exact absurd h e2
        · exact h
      exact ⟨hb.2.2.1, wpOp_step hm (fun K' hK => h3 K' (fun a w hS hW => hK a w ⟨hS, hW (inv.set hrm hb.2.2.1)⟩))⟩
end
/-- the beginning -/
theorem wp_region_hdP {P : Program} {Q : Exit → Act → World → Prop} {id : Nat} {a : Act} {w : World} {l : List Oper} (p : Nat) (S : Bool → World → Prop) (n g : Nat) (hm : P.follows .mixedOrders = true) (hg : n + g = l.length) (hok : HdOkP l.toArray n) (hS : S false w.drew)
    (h : HdOkP l.toArray n → S false w.drew → HdP P l.toArray Q p S n (TailT P l.toArray Q n g (l.drop n)) n (Array.replicate l.toArray.size false) a w.drew) : (Code.region id l.toArray true).wp P Q a w := by
  refine wp_region_any hm ?_
  have := wpAny_of_hdP (Q := Q) (p := p) (S := S) (g := g) (n := n) (tailT_any hg) n _ _ _ (h hok hS (inv_start l n))
  rw [hg] at this
  simpa using this
end Go.Proofs.YtcnebfmlelcliaaGreat
namespace Go.Proofs.YtcnebfmlelcliaaGreat
set_option linter.unusedSimpArgs false
open Go.RowKit
attribute [local go_sem ↓] Go.wp_at_zero Go.wp_at_succ

theorem Stay.sets {ok : Nat → Prop} {w : World} {P : World → Prop} (h : Stay ok w P) (B : Nat) (C : List Value) (hB : ∀ k, ok k → k < w.heap.size → k ≠ B) : Stay ok (w.setCells B 0 C) P := by
  have k := KeptB.sets C 0 (KeptB.refl w B)
  exact h.on (Nat.le_of_eq k.size.symm) (fun j hj hl => k.block j (hB j hj hl))
def okL (L : List Nat) : Nat → Prop := fun k => ∀ b ∈ L, k ≠ b
section
variable {w : World} {P : World → Prop} {L : List Nat}
theorem Stay.okL {n : Nat} (h : Stay (fun k => n ≤ k) w P) (hL : ∀ b ∈ L, b < n) : Stay (okL L) w P := h.weak (fun k _ hk b hb => by have h1 := hL b hb; have h2 : n ≤ k := hk; omega)
theorem Stay.allocL (h : Stay (Go.Proofs.YtcnebfmlelcliaaGreat.okL L) w P) (o : Obj) : Stay (Go.Proofs.YtcnebfmlelcliaaGreat.okL (w.heap.size :: L)) (w.alloc o) P :=
  (h.weak (fun k hk h1 b hb => by
    rcases List.mem_cons.1 hb with rfl | hb
    · exact Nat.ne_of_lt hk
    · exact h1 b hb)).below ((Below.refl _ _).alloc (Nat.le_refl _) o)
theorem Stay.setL (h : Stay (Go.Proofs.YtcnebfmlelcliaaGreat.okL L) w P) {B : Nat} (hB : B ∈ L) (C : List Value) : Stay (Go.Proofs.YtcnebfmlelcliaaGreat.okL L) (w.setCells B 0 C) P := h.sets B C (fun _ hk _ => hk B hB)
theorem Stay.lessL {L' : List Nat} (h : Stay (Go.Proofs.YtcnebfmlelcliaaGreat.okL L) w P) (hL : ∀ b ∈ L', b ∈ L) : Stay (Go.Proofs.YtcnebfmlelcliaaGreat.okL L') w P := h.weak (fun _ _ hk b hb => hk b (hL b hb))
end
theorem ltL_below {L : List Nat} {w w' : World} (h : ∀ b ∈ L, b < w.heap.size) (hb : w.heap.size ≤ w'.heap.size) : ∀ b ∈ L, b < w'.heap.size := fun b hm => Nat.lt_of_lt_of_le (h b hm) hb
theorem ltL_alloc {L : List Nat} {w : World} (h : ∀ b ∈ L, b < w.heap.size) (o : Obj) : ∀ b ∈ w.heap.size :: L, b < (w.alloc o).heap.size := fun b hm => by
  have hs : (w.alloc o).heap.size = w.heap.size + 1 := by simp
  rw [hs]
  rcases List.mem_cons.1 hm with rfl | hm
  · omega
  · have := h b hm; omega
/-- a state to begin with, and its INBOX, that read so in all worlds that keep all blocks but L -/
def BegunV (L : List Nat) (W : World) (e : Ending) (w' : World) : Prop := ∃ (sv : Value) (z : BxV) (m0 : Ml), e = .returned (.tuple #[sv, bxAgg z]) ∧ Hid (RightP m0) ∧ Hid (findM m0 inboxS = some z.b) ∧ Hid (Stay (okL L) w' fun x => MlIn x sv m0) ∧ Hid (Stay (okL L) w' fun x => LtsIn x z.v z.rows) ∧ Hid (Below W.heap.size W w')
def zMl : List Value := [.slice none 0 0, .int .u64 0, .slice none 0 0, .slice none 0 0, .int .u64 0, .int .u64 0]
def zBx : List Value := [.string ⟨#[]⟩, .int .u64 0, .int .u64 0, .int .u64 0, .slice none 0 0]
set_option maxRecDepth 100000 in
set_option maxHeartbeats 16000000 in
theorem begunV_any {L : List Nat} {W : World} {m : Ml} (v : Value) (hL : ∀ b ∈ L, b < W.heap.size) (hst : Stay (okL L) W fun x => MlIn x v m) (hsz : AskSz m) :
    Calls Tryz.prog 8 #[v] W (BegunV L W) := by
  obtain ⟨ab, cb, nb, ah, ch, as_, cs, rfl⟩ := hst.now.out_
  have hz1 := (Zoo.nil W).newBox [.slice ab nb cb, .int .u64 m.nv, .slice ah m.homes.length ch, .slice as_ m.seats.length cs, .int .u64 m.ns, .int .u64 m.sweeps].toArray 27
  have st1 := hst.allocL (.cells [.slice ab nb cb, .int .u64 m.nv, .slice ah m.homes.length ch, .slice as_ m.seats.length cs, .int .u64 m.ns, .int .u64 m.sweeps].toArray 27)
  have lt1 := ltL_alloc hL (.cells [.slice ab nb cb, .int .u64 m.nv, .slice ah m.homes.length ch, .slice as_ m.seats.length cs, .int .u64 m.ns, .int .u64 m.sweeps].toArray 27)
  generalize hMB : W.heap.size = MB at hz1 st1 lt1
  generalize hWa : (W.alloc (.cells [.slice ab nb cb, .int .u64 m.nv, .slice ah m.homes.length ch, .slice as_ m.seats.length cs, .int .u64 m.ns, .int .u64 m.sweeps].toArray 27)) = Wa at hz1 st1 lt1
  have hz2 := hz1.newBox zMl.toArray 27
  have st2 := st1.allocL (.cells zMl.toArray 27)
  have lt2 := ltL_alloc lt1 (.cells zMl.toArray 27)
  generalize hRB : Wa.heap.size = RB at hz2 st2 lt2
  generalize hWb : (Wa.alloc (.cells zMl.toArray 27)) = Wb at hz2 st2 lt2
  have hz3 := hz2.newBox zBx.toArray 33
  have st3 := st2.allocL (.cells zBx.toArray 33)
  have lt3 := ltL_alloc lt2 (.cells zBx.toArray 33)
  generalize hSB : Wb.heap.size = SB at hz3 st3 lt3
  generalize hWc : (Wb.alloc (.cells zBx.toArray 33)) = Wc at hz3 st3 lt3
  unfold zMl at hWb
  unfold zBx at hWc
  replace hz3 := Lib.hid hz3
  replace st3 := Lib.hid st3
  replace lt3 := Lib.hid lt3
  have hr := Lib.hid (refRightM_any _ st3.out.now hsz)
  clear hz1 hz2 st1 st2 lt1 lt2 hst hL
  go_enter Tryz.func8, Tryz.ntmps8
  go_upto_region 1 with fail
  clear hWa hWb hWc hRB hSB
  obtain ⟨hbM, -⟩ := hz3.out.box 2 rfl
  have x0 : Wc.cell? ⟨MB, 0, none⟩ = some (.slice ab nb cb) := box_cell hbM 0
  have x1 : Wc.cell? ⟨MB, 1, none⟩ = some (.int .u64 m.nv) := box_cell hbM 1
  have x2 : Wc.cell? ⟨MB, 2, none⟩ = some (.slice ah m.homes.length ch) := box_cell hbM 2
  have x3 : Wc.cell? ⟨MB, 3, none⟩ = some (.slice as_ m.seats.length cs) := box_cell hbM 3
  have x4 : Wc.cell? ⟨MB, 4, none⟩ = some (.int .u64 m.ns) := box_cell hbM 4
  have x5 : Wc.cell? ⟨MB, 5, none⟩ = some (.int .u64 m.sweeps) := box_cell hbM 5
  clear hbM
  go_wp2_with (go_at_call 19; refine hr.out.mono ?_; rintro e w1 ⟨B, rfl, hB, hb1⟩; clear x0 x1 x2 x3 x4 x5; refine Hid.out ?_)
  refine Lib.hid ?_
  have hz := Lib.hid (hz3.out.below hb1.out)
  have st := Lib.hid (st3.out.below hb1.out)
  have lt := Lib.hid (ltL_below lt3.out hb1.out.size)
  clear hr hb1 hz3 st3 lt3
  go_upto_if 8 with fail
  go_cut [] (fun wx => ∃ (m0 : Ml) (ab : Option Addr) (cb nb : Nat) (ah : Option Addr) (ch : Nat) (as_ : Option Addr) (cs : Nat), Hid (RightP m0) ∧ Hid (Zoo W wx [boxT SB zBx.toArray 33, boxT RB zMl.toArray 27, boxT MB [.slice ab nb cb, .int .u64 m0.nv, .slice ah m0.homes.length ch, .slice as_ m0.seats.length cs, .int .u64 m0.ns, .int .u64 m0.sweeps].toArray 27]) ∧ Hid (Stay (okL (SB :: RB :: MB :: L)) wx fun x => MlIn x (.agg #[.slice ab nb cb, .int .u64 m0.nv, .slice ah m0.homes.length ch, .slice as_ m0.seats.length cs, .int .u64 m0.ns, .int .u64 m0.sweeps]) m0) ∧ Hid (∀ b ∈ SB :: RB :: MB :: L, b < wx.heap.size))
  case first =>
    cases B with
    | true =>
      replace hB : Hid (RightP m) := Lib.hid (hB.out.1 rfl)
      go_wp2_with fail
      go_meet
      case rel => exact ⟨m, ab, cb, nb, ah, ch, as_, cs, hB, hz, st, lt⟩
    | false =>
      have hnw := Lib.hid (newS_any w1)
      go_wp2_with (go_at_call 20; refine hnw.out.mono ?_; rintro e w2 ⟨v2, rfl, hv2, hb2⟩; refine Hid.out ?_)
      obtain ⟨ab2, cb2, nb2, ah2, ch2, as2, cs2, rfl⟩ := hv2.out.now.out_
      have hzn := Lib.hid (hz.out.below hb2.out)
      obtain ⟨hbM, -⟩ := hzn.out.box 2 rfl
      have z0 := box_cell hbM 0
      have z1 := box_cell hbM 1
      have z2 := box_cell hbM 2
      have z3 := box_cell hbM 3
      have z4 := box_cell hbM 4
      have z5 := box_cell hbM 5
      simp at z0 z1 z2 z3 z4 z5
      have f0 := box_free hbM 0
      have f1 := box_free hbM 1
      have f2 := box_free hbM 2
      have f3 := box_free hbM 3
      have f4 := box_free hbM 4
      have f5 := box_free hbM 5
      have hzF := Lib.hid (hzn.out.fillBox (C := [_, _, _, _, _, _]) 2 rfl [.slice ab2 nb2 cb2, .int .u64 newM.nv, .slice ah2 newM.homes.length ch2, .slice as2 newM.seats.length cs2, .int .u64 newM.ns, .int .u64 newM.sweeps] rfl)
      have stN := Lib.hid ((hv2.out.okL lt.out).setL (B := MB) (by simp) [.slice ab2 nb2 cb2, .int .u64 newM.nv, .slice ah2 newM.homes.length ch2, .slice as2 newM.seats.length cs2, .int .u64 newM.ns, .int .u64 newM.sweeps])
      have ltN := Lib.hid (ltL_below (ltL_below lt.out hb2.out.size) (Nat.le_of_eq (by simp [World.setCells] : w2.heap.size = (w2.setCells MB 0 [.slice ab2 nb2 cb2, .int .u64 newM.nv, .slice ah2 newM.homes.length ch2, .slice as2 newM.seats.length cs2, .int .u64 newM.ns, .int .u64 newM.sweeps]).heap.size)))
      simp only [World.setCells, Nat.zero_add] at hzF stN ltN
      clear hbM hv2 hb2 hzn hB hz st lt hnw
      refine Lib.hid ?_
      go_wp2_with fail
      go_meet
      case rel => exact ⟨newM, ab2, cb2, nb2, ah2, ch2, as2, cs2, Lib.hid right_new, hzF, stN, ltN⟩
  case rest =>
  obtain ⟨m0, ab0, cb0, nb0, ah0, ch0, as0, cs0, hr0, hz0, st0, lt0⟩ := hcut
  generalize wc = w3 at *
  clear hz st lt hB
  obtain ⟨b0, hb0⟩ := right_inbox hr0.out
  have hfd := Lib.hid (findS_any _ m0 w3 st0.out.now hr0.out.sized inboxS)
  obtain ⟨hbM, -⟩ := hz0.out.box 2 rfl
  have x0 : w3.cell? ⟨MB, 0, none⟩ = some (.slice ab0 nb0 cb0) := box_cell hbM 0
  have x1 : w3.cell? ⟨MB, 1, none⟩ = some (.int .u64 m0.nv) := box_cell hbM 1
  have x2 : w3.cell? ⟨MB, 2, none⟩ = some (.slice ah0 m0.homes.length ch0) := box_cell hbM 2
  have x3 : w3.cell? ⟨MB, 3, none⟩ = some (.slice as0 m0.seats.length cs0) := box_cell hbM 3
  have x4 : w3.cell? ⟨MB, 4, none⟩ = some (.int .u64 m0.ns) := box_cell hbM 4
  have x5 : w3.cell? ⟨MB, 5, none⟩ = some (.int .u64 m0.sweeps) := box_cell hbM 5
  replace hb0 := Lib.hid hb0
  clear hbM
  unfold inboxS inboxL at hfd
  go_wp2_with (go_at_call 21; refine hfd.out.mono ?_; rintro e w4 ⟨z, rfl, hzb, hzl, hb4⟩; clear x0 x1 x2 x3 x4 x5; refine Hid.out ?_)
  obtain ⟨nm, vl, nx, hi, rows, az, cz⟩ := z
  unfold bxAgg bxCells BxV.v
  dsimp only
  have hzb2 : Hid (findM m0 inboxS = some (BxV.b ⟨nm, vl, nx, hi, rows, az, cz⟩)) := Lib.hid (by rw [hzb.out]; show findM m0 inboxS = some ((findM m0 inboxS).getD bx0.b); rw [hb0.out]; rfl)
  have st4 := st0.out.below hb4.out
  have sl4 := (hzl.out.okL lt0.out)
  have hz4 := (hz0.out.below hb4.out)
  have lt4 := ltL_below lt0.out hb4.out.size
  have hz5 := Lib.hid (hz4.newBox [.string nm, .int .u64 vl, .int .u64 nx, .int .u64 hi, .slice az rows.length cz].toArray 33)
  have st5 := Lib.hid (st4.allocL (.cells [.string nm, .int .u64 vl, .int .u64 nx, .int .u64 hi, .slice az rows.length cz].toArray 33))
  have sl5 := Lib.hid (sl4.allocL (.cells [.string nm, .int .u64 vl, .int .u64 nx, .int .u64 hi, .slice az rows.length cz].toArray 33))
  clear hzb hzl hb4 hz0 st0 hfd hb0 st4 sl4 hz4 lt0 lt4
  refine Lib.hid ?_
  generalize hQB : w4.heap.size = QB at hz5 st5 sl5
  go_upto_region 4 with fail
  generalize (w4.alloc (.cells [.string nm, .int .u64 vl, .int .u64 nx, .int .u64 hi, .slice az rows.length cz].toArray 33)) = w5 at hz5 st5 sl5 ⊢
  have hzd := hz5.out.drew
  have hdr := ((Below.refl w5.heap.size w5).drew)
  have sd5 := st5.out.below hdr
  have sld5 := sl5.out.below hdr
  obtain ⟨hbM, -⟩ := hzd.box 3 rfl
  obtain ⟨hbQ, -⟩ := hzd.box 0 rfl
  refine wp_region_hd (fun w' => (w'.cell? ⟨MB, 0, none⟩ = some (.slice ab0 nb0 cb0) ∧ w'.cell? ⟨MB, 1, none⟩ = some (.int .u64 m0.nv) ∧ w'.cell? ⟨MB, 2, none⟩ = some (.slice ah0 m0.homes.length ch0) ∧ w'.cell? ⟨MB, 3, none⟩ = some (.slice as0 m0.seats.length cs0) ∧ w'.cell? ⟨MB, 4, none⟩ = some (.int .u64 m0.ns) ∧ w'.cell? ⟨MB, 5, none⟩ = some (.int .u64 m0.sweeps)) ∧ (w'.cell? ⟨QB, 0, none⟩ = some (.string nm) ∧ w'.cell? ⟨QB, 1, none⟩ = some (.int .u64 vl) ∧ w'.cell? ⟨QB, 2, none⟩ = some (.int .u64 nx) ∧ w'.cell? ⟨QB, 3, none⟩ = some (.int .u64 hi) ∧ w'.cell? ⟨QB, 4, none⟩ = some (.slice az rows.length cz))) 3 1 (by kernel_rfl) rfl ⟨by kernel_rfl, by kernel_rfl, by kernel_rfl, by decide⟩ ⟨⟨box_cell hbM 0, box_cell hbM 1, box_cell hbM 2, box_cell hbM 3, box_cell hbM 4, box_cell hbM 5⟩, ⟨box_cell hbQ 0, box_cell hbQ 1, box_cell hbQ 2, box_cell hbQ 3, box_cell hbQ 4⟩⟩ (fun hok hS0 => ?_)
  generalize w5.drew = wd at *
  refine Hd.take (i := 0) (v := ?tv307) hok rfl (by kernel_rfl) (fun _ _ _ h => h) (Or.inl ⟨by rfl, ?ty307⟩) (by assumption) ?tr307
  case ty307 => (intro w hSw; (try dsimp only at hSw); go_simp; (try with_reducible rfl))
  try simp only [List.getElem_toArray, List.getElem_cons_succ, List.getElem_cons_zero, Act.put, List.setIfInBounds_toArray, List.set_cons_zero, List.set_cons_succ]
  refine Hd.take (i := 1) (v := ?tv308) hok rfl (by kernel_rfl) (fun _ _ _ h => h) (Or.inl ⟨by rfl, ?ty308⟩) (by assumption) ?tr308
  case ty308 => (intro w hSw; (try dsimp only at hSw); go_simp; (try with_reducible rfl))
  try simp only [List.getElem_toArray, List.getElem_cons_succ, List.getElem_cons_zero, Act.put, List.setIfInBounds_toArray, List.set_cons_zero, List.set_cons_succ]
  obtain ⟨hbR, -⟩ := hzd.box 2 rfl
  have z0 := box_cell hbR 0
  have z1 := box_cell hbR 1
  have z2 := box_cell hbR 2
  have z3 := box_cell hbR 3
  have z4 := box_cell hbR 4
  have z5 := box_cell hbR 5
  simp [zMl] at z0 z1 z2 z3 z4 z5
  have f0 := box_free hbR 0
  have f1 := box_free hbR 1
  have f2 := box_free hbR 2
  have f3 := box_free hbR 3
  have f4 := box_free hbR 4
  have f5 := box_free hbR 5
  have hz6 := hzd.fillBox 2 rfl [.slice ab0 nb0 cb0, .int .u64 m0.nv, .slice ah0 m0.homes.length ch0, .slice as0 m0.seats.length cs0, .int .u64 m0.ns, .int .u64 m0.sweeps] rfl
  have st6 := sd5.setL (B := RB) (by simp) [.slice ab0 nb0 cb0, .int .u64 m0.nv, .slice ah0 m0.homes.length ch0, .slice as0 m0.seats.length cs0, .int .u64 m0.ns, .int .u64 m0.sweeps]
  have sl6 := sld5.setL (B := RB) (by simp) [.slice ab0 nb0 cb0, .int .u64 m0.nv, .slice ah0 m0.homes.length ch0, .slice as0 m0.seats.length cs0, .int .u64 m0.ns, .int .u64 m0.sweeps]
  simp only [World.setCells, Nat.zero_add] at hz6 st6 sl6
  refine Hd.one (i := 2) rfl (by kernel_rfl) (fun K hK => ?_)
  go_simp
  generalize hw6 : (((((wd.setCell ⟨RB, 0, none⟩ _).setCell ⟨RB, 1, none⟩ _).setCell ⟨RB, 2, none⟩ _).setCell ⟨RB, 3, none⟩ _).setCell ⟨RB, 4, none⟩ _).setCell ⟨RB, 5, none⟩ _ = w6 at hz6 st6 sl6 ⊢
  obtain ⟨hbM, -⟩ := hz6.box 3 rfl
  obtain ⟨hbQ, -⟩ := hz6.box 0 rfl
  refine hK _ _ ⟨⟨box_cell hbM 0, box_cell hbM 1, box_cell hbM 2, box_cell hbM 3, box_cell hbM 4, box_cell hbM 5⟩, ⟨box_cell hbQ 0, box_cell hbQ 1, box_cell hbQ 2, box_cell hbQ 3, box_cell hbQ 4⟩⟩ ?_
  clear hK K
  try simp only [List.getElem_toArray, List.getElem_cons_succ, List.getElem_cons_zero, Act.put, List.setIfInBounds_toArray, List.set_cons_zero, List.set_cons_succ]
  refine Hd.done (by kernel_rfl) ?_
  simp only [List.drop_succ_cons, List.drop_zero]
  obtain ⟨hbS, -⟩ := hz6.box 1 rfl
  have y0 := box_cell hbS 0
  have y1 := box_cell hbS 1
  have y2 := box_cell hbS 2
  have y3 := box_cell hbS 3
  have y4 := box_cell hbS 4
  simp [zBx] at y0 y1 y2 y3 y4
  have g0 := box_free hbS 0
  have g1 := box_free hbS 1
  have g2 := box_free hbS 2
  have g3 := box_free hbS 3
  have g4 := box_free hbS 4
  have hz7 := Lib.hid (hz6.fillBox 1 rfl [.string nm, .int .u64 vl, .int .u64 nx, .int .u64 hi, .slice az rows.length cz] rfl)
  have st7 := Lib.hid ((st6.setL (B := SB) (by simp) [.string nm, .int .u64 vl, .int .u64 nx, .int .u64 hi, .slice az rows.length cz]).lessL (L' := L) (fun b hb => by simp [hb]))
  have sl7 := Lib.hid ((sl6.setL (B := SB) (by simp) [.string nm, .int .u64 vl, .int .u64 nx, .int .u64 hi, .slice az rows.length cz]).lessL (L' := L) (fun b hb => by simp [hb]))
  simp only [World.setCells, Nat.zero_add] at hz7 st7 sl7
  obtain ⟨hbR7, -⟩ := hz7.out.box 2 rfl
  obtain ⟨hbS7, -⟩ := hz7.out.box 1 rfl
  replace hbR7 := Lib.hid hbR7
  replace hbS7 := Lib.hid hbS7
  clear hw6 hok hS0 hbM hbQ hbS hbR z0 z1 z2 z3 z4 z5 f0 f1 f2 f3 f4 f5 hz6 st6 sl6 hzd hdr sd5 sld5 hz5 st5 sl5
  go_wp2_with fail
  refine bodyPost_ret (results_cells2 rfl _ _ RB SB [.slice ab0 nb0 cb0, .int .u64 m0.nv, .slice ah0 m0.homes.length ch0, .slice as0 m0.seats.length cs0, .int .u64 m0.ns, .int .u64 m0.sweeps] [.string nm, .int .u64 vl, .int .u64 nx, .int .u64 hi, .slice az rows.length cz] rfl rfl hbR7.out hbS7.out Tryz.isAgg27 Tryz.sizeOf27 Tryz.isAgg33 Tryz.sizeOf33) rfl ?_
  exact ⟨_, ⟨nm, vl, nx, hi, rows, az, cz⟩, m0, rfl, hr0, hzb2, st7, sl7, Lib.hid hz7.out.bel⟩
end Go.Proofs.YtcnebfmlelcliaaGreat
