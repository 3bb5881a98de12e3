/- The walks of the statements WordQuotes, WordForms, WordBack and WordBoxes: each answers true, and turns nothing that was there. -/
import Derived.Test.YtphahhmfijgalaaDoorWordI
namespace Go.Proofs.YtphahhmfijgalaaDoor
open Go.RowKit

theorem eqS {u v : ByteArray} {l : List UInt8} (hu : Hid (u.data.toList = l)) (hv : Hid (v.data.toList = l)) : (u.toList == v.toList) = true := by
  rw [ByteArray.toList_eq, ByteArray.toList_eq, hu.out, hv.out]; exact beq_self_eq_true l

set_option maxHeartbeats 1000000 in
theorem wordQuotes_any (s : ByteArray) (hs : s.size < 140737488355328) (w : World) (ht : Tab w) :
    Calls Tryd.prog 3 #[.string s] w fun e w' => e = .returned (.bool true) ∧ Below w.heap.size w w' := by
  have hs' : s.size ≤ maxLen := by unfold maxLen; omega
  go_enter Tryd.func3, Tryd.ntmps3
  go_wp2_with fail
  refine (quoteS_any s hs' _).mono ?_
  rintro e w1 ⟨u1, rfl, h1, b1⟩
  go_wp2_with fail
  refine (refQuoteS_any s hs' _).mono ?_
  rintro e w2 ⟨u2, rfl, h2, b2⟩
  have b2 := below_mono b1 b1.size b2
  have e1 := eqS h1 h2
  go_wp2_with fail
  refine (unquoteS_any s hs _).mono ?_
  rintro e w3 ⟨u3, rfl, h3, b3⟩
  have b3 := below_mono b2 b2.size b3
  go_wp2_with fail
  refine (refUnquoteS_any s hs' _).mono ?_
  rintro e w4 ⟨u4, rfl, h4, b4⟩
  have b4 := below_mono b3 b3.size b4
  have e2 := eqS h3 h4
  go_wp2_with fail
  refine (alive_any _ (ht.later b4)).mono ?_
  rintro e w5 ⟨rfl, b5⟩
  have b5 := below_mono b4 b4.size b5
  go_wp2_with fail
  refine (literal_any s (by omega) _ (ht.later b5)).mono ?_
  rintro e w6 ⟨u6, rfl, h6, b6⟩
  have b6 := below_mono b5 b5.size b6
  go_wp2_with fail
  refine (refLiteral_any s (by omega) _).mono ?_
  rintro e w7 ⟨u7, rfl, h7, b7⟩
  have b7 := below_mono b6 b6.size b7
  have e3 := eqS h6 h7
  go_wp2_with fail
  go_ret
  exact ⟨rfl, b7⟩

set_option maxHeartbeats 1000000 in
theorem wordForms_any (s : ByteArray) (hs : s.size < 140737488355328) (w : World) (ht : Tab w) :
    Calls Tryd.prog 4 #[.string s] w fun e w' => e = .returned (.bool true) ∧ Below w.heap.size w w' := by
  have hs' : s.size ≤ maxLen := by unfold maxLen; omega
  go_enter Tryd.func4, Tryd.ntmps4
  go_wp2_with fail
  refine (box_any s hs' _).mono ?_
  rintro e w1 ⟨u1, rfl, h1, b1⟩
  go_wp2_with fail
  refine (refBox_any s hs' _).mono ?_
  rintro e w2 ⟨u2, rfl, h2, b2⟩
  have b2 := below_mono b1 b1.size b2
  have e1 := eqS h1 h2
  go_wp2_with fail
  refine (alive_any _ (ht.later b2)).mono ?_
  rintro e w3 ⟨rfl, b3⟩
  have b3 := below_mono b2 b2.size b3
  go_wp2_with fail
  refine (form_any s (by omega) _ (ht.later b3)).mono ?_
  rintro e w6 ⟨u6, rfl, h6, b6⟩
  have b6 := below_mono b3 b3.size b6
  go_wp2_with fail
  refine (refForm_any s (by omega) _).mono ?_
  rintro e w7 ⟨u7, rfl, h7, b7⟩
  have b7 := below_mono b6 b6.size b7
  have e3 := eqS h6 h7
  go_wp2_with fail
  go_ret
  exact ⟨rfl, b7⟩
end Go.Proofs.YtphahhmfijgalaaDoor
