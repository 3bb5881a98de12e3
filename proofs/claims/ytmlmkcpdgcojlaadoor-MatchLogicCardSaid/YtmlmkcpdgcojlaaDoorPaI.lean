/- Section and Holds of both, Cut of the document: walked. -/
import Derived.Test.YtmlmkcpdgcojlaaDoorPaH
namespace Go.Proofs.YtmlmkcpdgcojlaaDoor
open Go.RowKit

def RetL (l : List UInt8) (w : World) (e : Ending) (w' : World) : Prop := ∃ u : ByteArray, e = .returned (.string u) ∧ Hid (u.data.toList = l) ∧ Hid (Below w.heap.size w w')
def secL (m : List UInt8) (kind : Int) : List UInt8 := if kind = 10 then m else if kind = 11 then (splitM m).1 else if kind = 12 then (splitM m).2 else []
theorem kind_cases (kind : Int) (m : List UInt8) :
    ((kind == 10) = true ∧ Hid (secL m kind = m)) ∨ ((kind == 10) = false ∧ (kind == 11) = true ∧ Hid (secL m kind = (splitM m).1)) ∨ ((kind == 10) = false ∧ (kind == 11) = false ∧ (kind == 12) = true ∧ Hid (secL m kind = (splitM m).2)) ∨ ((kind == 10) = false ∧ (kind == 11) = false ∧ (kind == 12) = false ∧ Hid (secL m kind = [])) := by
  by_cases h1 : kind = 10
  · exact .inl ⟨by simpa using h1, Lib.hid (by rw [secL, if_pos h1])⟩
  · by_cases h2 : kind = 11
    · exact .inr (.inl ⟨by simpa using h1, by simpa using h2, Lib.hid (by rw [secL, if_neg h1, if_pos h2])⟩)
    · by_cases h3 : kind = 12
      · exact .inr (.inr (.inl ⟨by simpa using h1, by simpa using h2, by simpa using h3, Lib.hid (by rw [secL, if_neg h1, if_neg h2, if_pos h3])⟩))
      · exact .inr (.inr (.inr ⟨by simpa using h1, by simpa using h2, by simpa using h3, Lib.hid (by rw [secL, if_neg h1, if_neg h2, if_neg h3])⟩))
set_option maxHeartbeats 1000000 in
theorem section_any (s : ByteArray) (kind : Int) (hs : s.size < 4294967281) (m : Int) (w : World) (hm : w.cell? ⟨0, 0, none⟩ = some (.int .i64 m)) :
    Calls Tryd.prog 23 #[.string s, .int .i64 kind] w (RetL (secL s.data.toList kind) w) := by
  have hsp := Lib.hid (split_any s hs m w hm)
  rcases kind_cases kind s.data.toList with ⟨k1, hk⟩ | ⟨k1, k2, hk⟩ | ⟨k1, k2, k3, hk⟩ | ⟨k1, k2, k3, hk⟩
  all_goals (
    rw [hk.out]
    clear hk
    go_enter Tryd.func23, Tryd.ntmps23
    go_wp2_with fail
    refine hsp.out.mono ?_
    rintro e w1 ⟨h, t, rfl, hht, dr, rfl⟩
    have hb1 : Hid (Below w.heap.size w (w.drewN dr)) := Lib.hid (below_drewN (Below.refl _ _) dr)
    have ho1 : Hid (h.data.toList = (splitM s.data.toList).1) := Lib.hid hht.out.1
    have ho2 : Hid (t.data.toList = (splitM s.data.toList).2) := Lib.hid hht.out.2
    clear hht hsp
    go_wp2_with fail
    go_ret
    exact ⟨_, rfl, by first | assumption | exact Lib.hid rfl, hb1⟩)
theorem cut_next (s : List UInt8) (f c k : Nat) (h : k < s.length) : cutL (s.take (k + 1)) f c = if f ≤ k ∧ (cutL (s.take k) f c).length < c then cutL (s.take k) f c ++ [s[k]] else cutL (s.take k) f c := by
  have hl : (cutL (s.take k) f c).length = min c (k - f) := by rw [cutL, List.length_take, List.length_drop, List.length_take, show min k s.length = k by omega]
  rw [hl]
  rw [cutL, List.take_succ_eq_append_getElem h]
  by_cases hf : f ≤ k
  · rw [List.drop_append_of_le_length (by rw [List.length_take]; omega)]
    have hd : ((s.take k).drop f).length = k - f := by rw [List.length_drop, List.length_take]; omega
    by_cases hc : min c (k - f) < c
    · rw [if_pos ⟨hf, hc⟩, List.take_append, cutL, hd]
      rw [List.take_of_length_le (l := [s[k]]) (by simp; omega)]
    · rw [if_neg (fun h => hc h.2), List.take_append, cutL, hd, show c - (k - f) = 0 by omega]
      simp
  · rw [if_neg (fun h => hf h.1), cutL]
    rw [List.drop_of_length_le (by simp; omega), List.drop_of_length_le (by simp; omega)]
def holdsL (s u : List UInt8) : Bool := Lib.contains (upL s) (upL u)
theorem size_up (s : ByteArray) : (mkB (upL s.data.toList)).size = s.size := by show (upL s.data.toList).length = s.size; rw [upL_length]; rfl
set_option maxHeartbeats 1000000 in
theorem holds_any (s u : ByteArray) (hs : s.size ≤ 4194304) (hu : u.size ≤ 4194304) (m : Int) (w : World) (hm : w.cell? ⟨0, 0, none⟩ = some (.int .i64 m)) (h0 : 1 ≤ w.heap.size) :
    Calls Tryd.prog 22 #[.string s, .string u] w fun e w' => e = .returned (.bool (holdsL s.data.toList u.data.toList)) ∧ Hid (Below w.heap.size w w') := by
  have h1 := Lib.hid (upper_any s (by unfold maxLen; omega) w)
  have h2 := fun w => upper_any u (by unfold maxLen; omega) w
  replace h2 := Lib.hid h2
  have h3 := fun w' (h : Below w.heap.size w w') => Tryd.strings_Contains (mkB (upL s.data.toList)) (mkB (upL u.data.toList)) m w' (by rw [size_up]; omega) ((h.cell (p := ⟨0, 0, none⟩) (by show 0 < _; omega)).trans hm)
  replace h3 := Lib.hid h3
  have h0' := Lib.hid hm
  clear hm
  go_enter Tryd.func22, Tryd.ntmps22
  go_wp2_with fail
  refine h1.out.mono ?_
  rintro e w1 ⟨rfl, hb1⟩
  go_wp2_with fail
  refine (h2.out w1).mono ?_
  rintro e w2 ⟨rfl, hb2⟩
  have hb := hb1.trans (hb2.mono hb1.size)
  replace hb1 := Lib.hid hb1
  replace hb2 := Lib.hid hb2
  go_wp2_with fail
  refine (h3.out w2 hb).mono ?_
  rintro e w3 ⟨rfl, rfl⟩
  go_wp2_with fail
  go_ret
  exact ⟨rfl, Lib.hid hb⟩
theorem holds_hit {a b : List UInt8} {k : Nat} (hk : k ≤ a.length) (h : atL a k b = true) : Lib.contains a b = true := by
  rw [Lib.contains, decide_eq_true_eq]
  rcases Lib.index_spec a b with ⟨_, h2⟩ | ⟨i, h2, _⟩
  · have := h2 k hk
    rw [show Lib.occAt a b k = atL a k b from rfl, h] at this; cases this
  · omega
theorem holds_miss {a b : List UInt8} (h : ∀ j, j ≤ a.length → atL a j b = false) : Lib.contains a b = false := by
  rw [Lib.contains, decide_eq_false_iff_not]
  rw [Lib.index_none h]; decide
end Go.Proofs.YtmlmkcpdgcojlaaDoor
