/- Sets as sorted lists, over any strict total order; plain, no program. -/
import Derived.Lib.SlicesCompact
import Derived.Lib.Bytealg
import Derived.WideShapes
import Derived.WideAt
namespace Go.Proofs.YtfglfoapgpghkaaDoor

structure STO {α : Type} (lt : α → α → Bool) : Prop where
  irr : ∀ a, lt a a = false
  trans : ∀ a b c, lt a b = true → lt b c = true → lt a c = true
  tot : ∀ a b, a ≠ b → lt a b = true ∨ lt b a = true
def SSorted {α : Type} (lt : α → α → Bool) (l : List α) : Prop := l.Pairwise fun a b => lt a b = true
theorem ssorted_ext {α : Type} {lt : α → α → Bool} (H : STO lt) : ∀ (l m : List α), SSorted lt l → SSorted lt m → (∀ x, x ∈ l ↔ x ∈ m) → l = m
  | [], [], _, _, _ => rfl
  | [], b :: m, _, _, h => by have := (h b).2 (by simp); simp at this
  | a :: l, [], _, _, h => by have := (h a).1 (by simp); simp at this
  | a :: l, b :: m, hl, hm, h => by
    obtain ⟨hl1, hl2⟩ := List.pairwise_cons.1 hl
    obtain ⟨hm1, hm2⟩ := List.pairwise_cons.1 hm
    have hab : a = b := by
      by_cases e : a = b
      · exact e
      · have h1 : a ∈ m := by
          rcases List.mem_cons.1 ((h a).1 (by simp)) with h | h
          · exact absurd h e
          · exact h
        have h2 : b ∈ l := by
          rcases List.mem_cons.1 ((h b).2 (by simp)) with h | h
          · exact absurd h.symm e
          · exact h
        have := H.trans _ _ _ (hl1 b h2) (hm1 a h1)
        rw [H.irr] at this; cases this
    subst hab
    congr 1
    refine ssorted_ext H l m hl2 hm2 fun x => ⟨fun hx => ?_, fun hx => ?_⟩
    · rcases List.mem_cons.1 ((h x).1 (by simp [hx])) with rfl | h
      · have := hl1 x hx; rw [H.irr] at this; cases this
      · exact h
    · rcases List.mem_cons.1 ((h x).2 (by simp [hx])) with rfl | h
      · have := hm1 x hx; rw [H.irr] at this; cases this
      · exact h
/-- f, in its place -/
def insS {α : Type} (lt : α → α → Bool) (f : α) : List α → List α
  | [] => [f]
  | x :: r => if lt f x then f :: x :: r else x :: insS lt f r
/-- one more, if it isn't there -/
def withS {α : Type} [DecidableEq α] (lt : α → α → Bool) (l : List α) (f : α) : List α := if f ∈ l then l else insS lt f l
def setS {α : Type} [DecidableEq α] (lt : α → α → Bool) (l : List α) : List α := l.foldl (withS lt) []
theorem mem_insS {α : Type} (lt : α → α → Bool) (f x : α) : ∀ l : List α, x ∈ insS lt f l ↔ x = f ∨ x ∈ l
  | [] => by simp [insS]
  | y :: r => by
    rw [insS]
    split
    · simp
    · rw [List.mem_cons, mem_insS lt f x r, List.mem_cons]
      constructor
      · rintro (h | h | h) <;> simp [h]
      · rintro (h | h | h) <;> simp [h]
theorem mem_withS {α : Type} [DecidableEq α] (lt : α → α → Bool) (l : List α) (f x : α) : x ∈ withS lt l f ↔ x = f ∨ x ∈ l := by
  rw [withS]
  split
  · rename_i h
    constructor
    · exact .inr
    · rintro (rfl | h1)
      · exact h
      · exact h1
  · exact mem_insS lt f x l
theorem sorted_insS {α : Type} {lt : α → α → Bool} (H : STO lt) (f : α) : ∀ l : List α, SSorted lt l → f ∉ l → SSorted lt (insS lt f l)
  | [], _, _ => List.pairwise_singleton _ _
  | y :: r, h, hn => by
    obtain ⟨h1, h2⟩ := List.pairwise_cons.1 h
    rw [insS]
    split
    · rename_i hf
      refine List.pairwise_cons.2 ⟨fun z hz => ?_, h⟩
      rcases List.mem_cons.1 hz with rfl | hz
      · exact hf
      · exact H.trans _ _ _ hf (h1 z hz)
    · rename_i hf
      refine List.pairwise_cons.2 ⟨fun z hz => ?_, sorted_insS H f r h2 (fun h => hn (by simp [h]))⟩
      rcases (mem_insS lt f z r).1 hz with rfl | hz
      · rcases H.tot z y (fun e => hn (by simp [e])) with h | h
        · exact absurd h hf
        · exact h
      · exact h1 z hz
theorem sorted_withS {α : Type} [DecidableEq α] {lt : α → α → Bool} (H : STO lt) (l : List α) (f : α) (h : SSorted lt l) : SSorted lt (withS lt l f) := by
  rw [withS]
  split
  · exact h
  · rename_i hn
    exact sorted_insS H f l h hn
theorem foldl_withS {α : Type} [DecidableEq α] {lt : α → α → Bool} (H : STO lt) : ∀ (l m : List α), SSorted lt m → SSorted lt (l.foldl (withS lt) m) ∧ ∀ x, x ∈ l.foldl (withS lt) m ↔ x ∈ m ∨ x ∈ l
  | [], m, h => ⟨h, fun x => by simp⟩
  | y :: r, m, h => by
    have ih := foldl_withS H r (withS lt m y) (sorted_withS H m y h)
    refine ⟨ih.1, fun x => ?_⟩
    rw [List.foldl_cons, ih.2, mem_withS, List.mem_cons]
    constructor
    · rintro ((h | h) | h) <;> simp [h]
    · rintro (h | h | h) <;> simp [h]
theorem sorted_setS {α : Type} [DecidableEq α] {lt : α → α → Bool} (H : STO lt) (l : List α) : SSorted lt (setS lt l) := (foldl_withS H l [] List.Pairwise.nil).1
theorem mem_setS {α : Type} [DecidableEq α] {lt : α → α → Bool} (H : STO lt) (l : List α) (x : α) : x ∈ setS lt l ↔ x ∈ l := by
  rw [setS, (foldl_withS H l [] List.Pairwise.nil).2]; simp
theorem setS_of_sorted {α : Type} [DecidableEq α] {lt : α → α → Bool} (H : STO lt) (l : List α) (h : SSorted lt l) : setS lt l = l := ssorted_ext H _ _ (sorted_setS H l) h (mem_setS H l)
theorem setS_iff {α : Type} [DecidableEq α] {lt : α → α → Bool} (H : STO lt) (l : List α) : setS lt l = l ↔ SSorted lt l := ⟨fun h => by rw [← h]; exact sorted_setS H l, setS_of_sorted H l⟩
theorem setS_congr {α : Type} [DecidableEq α] {lt : α → α → Bool} (H : STO lt) (l m : List α) (h : ∀ x, x ∈ l ↔ x ∈ m) : setS lt l = setS lt m :=
  ssorted_ext H _ _ (sorted_setS H l) (sorted_setS H m) fun x => by rw [mem_setS H, mem_setS H, h]
theorem insS_len {α : Type} (lt : α → α → Bool) (f : α) : ∀ l : List α, (insS lt f l).length = l.length + 1
  | [] => rfl
  | x :: r => by
    rw [insS]
    split
    · simp
    · simp [insS_len lt f r]
theorem foldl_withS_len {α : Type} [DecidableEq α] (lt : α → α → Bool) : ∀ (l m : List α), (l.foldl (withS lt) m).length ≤ m.length + l.length
  | [], m => by simp
  | y :: r, m => by
    have h1 : (withS lt m y).length ≤ m.length + 1 := by
      rw [withS]
      split
      · omega
      · rw [insS_len]; exact Nat.le_refl _
    have := foldl_withS_len lt r (withS lt m y)
    rw [List.foldl_cons, List.length_cons]; omega
theorem setS_len {α : Type} [DecidableEq α] (lt : α → α → Bool) (l : List α) : (setS lt l).length ≤ l.length := by
  have := foldl_withS_len lt l []
  simpa [setS] using this
/-- sorted, and then each kept once -/
theorem compact_set {α : Type} [DecidableEq α] [Inhabited α] {lt : α → α → Bool} (H : STO lt) (d : Array α) (hd : ∀ i j, i < j → j < d.size → lt d[j]! d[i]! = false) :
    ∀ m, m ≤ d.size → SSorted lt (Lib.compactUpTo d m) ∧ (∀ x, x ∈ Lib.compactUpTo d m ↔ ∃ j, j < m ∧ d[j]! = x)
  | 0, _ => ⟨by simp [Lib.compactUpTo, SSorted], fun x => by simp [Lib.compactUpTo]⟩
  | m + 1, hm => by
    obtain ⟨h1, h2⟩ := compact_set H d hd m (by omega)
    rw [Lib.compactUpTo_succ]
    cases hk : Lib.keeps d m
    · simp only [Bool.false_eq_true, if_false, List.append_nil]
      refine ⟨h1, fun x => ?_⟩
      rw [h2]
      have hm0 : m ≠ 0 ∧ d[m]! = d[m - 1]! := by
        rw [Lib.keeps] at hk
        have := of_decide_eq_false hk
        constructor
        · intro e; exact this (.inl e)
        · by_cases e : d[m]! = d[m - 1]!
          · exact e
          · exact absurd (.inr e) this
      constructor
      · rintro ⟨j, hj, rfl⟩; exact ⟨j, by omega, rfl⟩
      · rintro ⟨j, hj, rfl⟩
        rcases Nat.lt_or_ge j m with h | h
        · exact ⟨j, h, rfl⟩
        · obtain rfl : j = m := by omega
          exact ⟨j - 1, by omega, hm0.2.symm⟩
    · simp only [if_true]
      have hlt : ∀ j, j < m → lt d[j]! d[m]! = true := by
        intro j hj
        have hk' : m = 0 ∨ d[m]! ≠ d[m - 1]! := of_decide_eq_true hk
        rcases hk' with hk' | hk'
        · omega
        · have hprev : lt d[m - 1]! d[m]! = true := by
            rcases H.tot d[m - 1]! d[m]! (fun e => hk' e.symm) with h | h
            · exact h
            · rw [hd (m - 1) m (by omega) (by omega)] at h; cases h
          rcases Nat.lt_or_ge j (m - 1) with h | h
          · by_cases e : d[j]! = d[m - 1]!
            · rw [e]; exact hprev
            · rcases H.tot _ _ e with h3 | h3
              · exact H.trans _ _ _ h3 hprev
              · rw [hd j (m - 1) h (by omega)] at h3; cases h3
          · obtain rfl : j = m - 1 := by omega
            exact hprev
      refine ⟨List.pairwise_append.2 ⟨h1, List.pairwise_singleton _ _, fun a ha b hb => ?_⟩, fun x => ?_⟩
      · obtain ⟨j, hj, rfl⟩ := (h2 a).1 ha
        have : b = d[m]! := by simpa using hb
        subst this
        exact hlt j hj
      · rw [List.mem_append, h2]
        constructor
        · rintro (⟨j, hj, rfl⟩ | h)
          · exact ⟨j, by omega, rfl⟩
          · have : x = d[m]! := by simpa using h
            exact ⟨m, by omega, this.symm⟩
        · rintro ⟨j, hj, rfl⟩
          rcases Nat.lt_or_ge j m with h | h
          · exact .inl ⟨j, h, rfl⟩
          · obtain rfl : j = m := by omega
            exact .inr (by simp)
theorem get!_list {α : Type} [Inhabited α] (l : List α) (j : Nat) : l.toArray[j]! = l[j]! := by simp
theorem compact_setS {α : Type} [DecidableEq α] [Inhabited α] {lt : α → α → Bool} (H : STO lt) (l m : List α) (hm : ∀ i j, i < j → j < m.length → lt m[j]! m[i]! = false) (hp : ∀ x, x ∈ m ↔ x ∈ l) : Lib.compactUpTo m.toArray m.length = setS lt l := by
  obtain ⟨h1, h2⟩ := compact_set H m.toArray (fun i j hij hj => by rw [get!_list, get!_list]; exact hm i j hij (by simpa using hj)) m.length (by simp)
  refine ssorted_ext H _ _ h1 (sorted_setS H l) fun x => ?_
  rw [h2, mem_setS H, ← hp]
  constructor
  · rintro ⟨j, hj, rfl⟩
    rw [get!_list, getElem!_pos m j hj]
    exact List.getElem_mem hj
  · intro hx
    obtain ⟨j, hj, e⟩ := List.getElem_of_mem hx
    exact ⟨j, hj, by rw [get!_list, getElem!_pos m j hj]; exact e⟩
/-! texts in their order -/
theorem cmp_lt : ∀ a b : List UInt8, decide (Lib.compareBytes a b < 0) = bytesBefore a b
  | [], [] => rfl
  | [], _ :: _ => rfl
  | _ :: _, [] => rfl
  | a :: x, b :: y => by
    rw [Lib.compareBytes, bytesBefore]
    by_cases h1 : a < b
    · simp [h1]
    · by_cases h2 : b < a
      · have h3 : ¬ a = b := fun e => by subst e; exact h1 h2
        simp [h1, h2, h3]
      · have h3 : a = b := by
          have := UInt8.not_lt.1 h1
          have := UInt8.not_lt.1 h2
          exact UInt8.le_antisymm ‹_› ‹_›
        subst h3
        simp [h1, cmp_lt x y]
theorem bytes_sto : STO (α := List UInt8) bytesBefore := ⟨WideAt.bytes_irrefl, fun a b c => WideShapes.bytes_trans a b c, fun a b => WideAt.bytes_total a b⟩
end Go.Proofs.YtfglfoapgpghkaaDoor
