/- What every right program answers: alive; PartHolds, PartSplits, PartWhole: walked. -/
import Derived.Test.YtgijkpbeokclkaaDoorPaI
namespace Go.Proofs.YtgijkpbeokclkaaDoor
open Go.RowKit

theorem size_of_list {u : ByteArray} {l : List UInt8} (h : u.data.toList = l) : u.size = l.length := by rw [← h]; rfl
theorem eq_lit {u : ByteArray} {l : List UInt8} (h : u.data.toList = l) : (u.toList == l) = true := by rw [ByteArray.toList_eq, h]; simp
theorem alive_split : splitM [97, 58, 32, 98, 13, 10, 13, 10, 99] = ([97, 58, 32, 98, 13, 10, 13, 10], [99]) := by kernel_rfl
theorem alive_field : fieldVal [83, 117, 98, 106, 101, 99, 116, 58, 32, 120, 13, 10, 32, 121, 13, 10, 84, 111, 58, 122] [83, 85, 66, 74, 69, 67, 84] = some [120, 32, 121] := by kernel_rfl
theorem alive_cut : cutL [104, 101, 108, 108, 111] 1 3 = [101, 108, 108] := by kernel_rfl
theorem alive_holds : holdsL [72, 101, 108, 108, 111] [69, 76, 76] = true := by kernel_rfl
set_option maxRecDepth 100000 in
set_option maxHeartbeats 1000000 in
theorem alive_any (m : Int) (w : World) (hm : w.cell? ⟨0, 0, none⟩ = some (.int .i64 m)) (h0 : 1 ≤ w.heap.size) :
    Calls Tryd.prog 8 #[] w fun e w' => e = .returned (.bool true) ∧ Hid (Below w.heap.size w w') := by
  have h1 := split_any (mkB [97, 58, 32, 98, 13, 10, 13, 10, 99]) (by decide) m w hm
  unfold SplitRet at h1
  rw [mkB_list, alive_split] at h1
  replace h1 := Lib.hid h1
  have hmb := fun w' (h : Below w.heap.size w w') => (h.cell (p := ⟨0, 0, none⟩) (by show 0 < _; omega)).trans hm
  have h2 := fun w' (h : Below w.heap.size w w') => field_any (mkB [83, 117, 98, 106, 101, 99, 116, 58, 32, 120, 13, 10, 32, 121, 13, 10, 84, 111, 58, 122]) (mkB [83, 85, 66, 74, 69, 67, 84]) (by decide) (by decide) m w' (hmb w' h) (Nat.le_trans h0 h.size)
  unfold FieldRet at h2
  rw [mkB_list, mkB_list, alive_field] at h2
  replace h2 := Lib.hid h2
  have h3 := fun w' => cut_any (mkB [104, 101, 108, 108, 111]) 1 3 (by decide) (by decide) (by decide) w'
  rw [mkB_list, alive_cut] at h3
  replace h3 := Lib.hid h3
  have h4 := fun w' (h : Below w.heap.size w w') => holds_any (mkB [72, 101, 108, 108, 111]) (mkB [69, 76, 76]) (by decide) (by decide) m w' (hmb w' h) (Nat.le_trans h0 h.size)
  rw [mkB_list, mkB_list, alive_holds] at h4
  replace h4 := Lib.hid h4
  have h5 := Lib.hid (fun w' => fields_in (mkB []) w')
  have kn : ∀ (w : World) (a : Value), (binOp BinOp.neq 26 (.func (.func 24) #[] #[a]) .nilFunc).run Tryd.prog w = .ok (.bool true) w := fun _ _ => by kernel_rfl
  clear hm hmb
  go_enter Tryd.func8, Tryd.ntmps8
  go_wp2_with fail
  refine h1.out.mono ?_
  rintro e w1 ⟨hd, tx, rfl, hht, dr, rfl⟩
  have q1 := eq_lit hht.out.1
  have q2 := eq_lit hht.out.2
  have b1 : Hid (Below w.heap.size w (w.drewN dr)) := Lib.hid (below_drewN (Below.refl _ _) dr)
  clear h1 hht
  go_wp2_with fail
  refine (h2.out _ b1.out).mono ?_
  rintro e w2 ⟨v, rfl, hv, b2⟩
  have q3 : (v.toList == [120, 32, 121]) = true := eq_lit (l := [120, 32, 121]) hv.out
  have b3 := Lib.hid (b1.out.trans (b2.out.mono b1.out.size))
  clear hv h2
  go_wp2_with fail
  refine (h3.out _).mono ?_
  rintro e w3 ⟨u, rfl, hu, rfl⟩
  have q4 := eq_lit hu.out
  clear hu h3
  go_wp2_with fail
  refine (h4.out _ b3.out).mono ?_
  rintro e w4 ⟨rfl, b4⟩
  have b5 := Lib.hid (b3.out.trans (b4.out.mono b3.out.size))
  clear h4
  go_wp2_with fail
  refine (h5.out _).mono ?_
  rintro e w5 ⟨rfl, rfl⟩
  have b6 : Hid (Below w.heap.size w (w4.alloc (.cells #[.string (mkB [])] 9))) := Lib.hid (b5.out.alloc b5.out.size _)
  go_wp2_with fail
  go_ret
  exact ⟨rfl, b6⟩
end Go.Proofs.YtgijkpbeokclkaaDoor
