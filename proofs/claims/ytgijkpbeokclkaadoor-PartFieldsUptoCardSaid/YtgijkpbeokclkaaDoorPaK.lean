/- PartHolds, PartSplits: walked. -/
import Derived.Test.YtgijkpbeokclkaaDoorPaJ
namespace Go.Proofs.YtgijkpbeokclkaaDoor
open Go.RowKit

theorem holds_tail (s u : List UInt8) : holdsL (s ++ u) u = true := by
  refine holds_hit (k := s.length) (by simp [upL]) ?_
  rw [atL]
  have e : (upL (s ++ u)).drop s.length = upL u := by
    rw [upL, List.map_append, List.drop_left' (by simp)]; rfl
  rw [e, prefix_take, List.take_length]; simp
theorem holds_nil (s : List UInt8) : holdsL s [] = true := holds_hit (k := 0) (Nat.zero_le _) rfl
set_option maxRecDepth 100000 in
set_option maxHeartbeats 1000000 in
theorem partHolds_any (s u : ByteArray) (hs : s.size ≤ 140737488355328) (hu : u.size ≤ 140737488355328) (m : Int) (w : World) (hm : w.cell? ⟨0, 0, none⟩ = some (.int .i64 m)) (h0 : 1 ≤ w.heap.size) :
    Calls Tryd.prog 4 #[.string s, .string u] w fun e w' => e = .returned (.bool true) ∧ Below w.heap.size w w' := by
  have hal := Lib.hid (alive_any m w hm h0)
  by_cases hbig : s.size ≤ 4096 ∧ u.size ≤ 4096
  · obtain ⟨hs1, hu1⟩ := hbig
    have hmb := fun w' (h : Below w.heap.size w w') => (h.cell (p := ⟨0, 0, none⟩) (by show 0 < _; omega)).trans hm
    have h1 := fun w' (h : Below w.heap.size w w') => holds_any s u (by omega) (by omega) m w' (hmb w' h) (Nat.le_trans h0 h.size)
    have h2 := fun w' => refHolds_any s u (by omega) (by omega) w'
    have h3 := fun w' (h : Below w.heap.size w w') => holds_any (s ++ u) u (by rw [ByteArray.size_append]; omega) (by omega) m w' (hmb w' h) (Nat.le_trans h0 h.size)
    have h4 := fun w' (h : Below w.heap.size w w') => holds_any (u ++ s) ⟨#[]⟩ (by rw [ByteArray.size_append]; omega) (by decide) m w' (hmb w' h) (Nat.le_trans h0 h.size)
    rw [toList_app, holds_tail] at h3
    rw [show (ByteArray.mk #[]).data.toList = [] from rfl, holds_nil] at h4
    generalize holdsL s.data.toList u.data.toList = B at h1 h2
    replace h1 := Lib.hid h1
    replace h2 := Lib.hid h2
    replace h3 := Lib.hid h3
    replace h4 := Lib.hid h4
    clear hm hmb
    go_enter Tryd.func4, Tryd.ntmps4
    go_wp2_with fail
    refine hal.out.mono ?_
    rintro e w1 ⟨rfl, b1⟩
    clear hal
    go_wp2_with fail
    refine (h1.out w1 b1.out).mono ?_
    rintro e w2 ⟨rfl, b2⟩
    have c2 := Lib.hid (b1.out.trans (b2.out.mono b1.out.size))
    clear h1
    go_wp2_with fail
    refine (h2.out w2).mono ?_
    rintro e w3 ⟨rfl, b3⟩
    have c3 := Lib.hid (c2.out.trans (b3.out.mono c2.out.size))
    clear h2
    go_wp2_with fail
    refine (h3.out w3 c3.out).mono ?_
    rintro e w4 ⟨rfl, b4⟩
    have c4 := Lib.hid (c3.out.trans (b4.out.mono c3.out.size))
    clear h3
    go_wp2_with fail
    refine (h4.out w4 c4.out).mono ?_
    rintro e w5 ⟨rfl, b5⟩
    have c5 := Lib.hid (c4.out.trans (b5.out.mono c4.out.size))
    clear h4
    go_wp2_with fail
    go_ret
    exact ⟨rfl, c5.out⟩
  · by_cases hs1 : s.size ≤ 4096
    · have hu1 : 4096 < u.size := by omega
      clear hbig
      go_enter Tryd.func4, Tryd.ntmps4
      go_wp2_with fail
      refine hal.out.mono ?_
      rintro e w1 ⟨rfl, b1⟩
      go_wp2_with fail
      go_ret
      exact ⟨rfl, b1.out⟩
    · clear hbig
      go_enter Tryd.func4, Tryd.ntmps4
      go_wp2_with fail
      refine hal.out.mono ?_
      rintro e w1 ⟨rfl, b1⟩
      go_wp2_with fail
      go_ret
      exact ⟨rfl, b1.out⟩
theorem eq_both {u v : ByteArray} {l : List UInt8} (h1 : u.data.toList = l) (h2 : v.data.toList = l) : (u.toList == v.toList) = true := by rw [ByteArray.toList_eq, ByteArray.toList_eq, h1, h2]; simp
set_option maxRecDepth 100000 in
set_option maxHeartbeats 1000000 in
theorem partSplits_any (s : ByteArray) (kind f c : Int) (hs : s.size ≤ 140737488355328) (hf0 : 0 ≤ f) (hf : f < 18446744073709551616) (hc0 : 0 ≤ c) (hc : c < 18446744073709551616) (m : Int) (w : World) (hm : w.cell? ⟨0, 0, none⟩ = some (.int .i64 m)) (h0 : 1 ≤ w.heap.size) :
    Calls Tryd.prog 6 #[.string s, .int .i64 kind, .int .u64 f, .int .u64 c] w fun e w' => e = .returned (.bool true) ∧ Below w.heap.size w w' := by
  have hmb := fun w' (h : Below w.heap.size w w') => (h.cell (p := ⟨0, 0, none⟩) (by show 0 < _; omega)).trans hm
  have hal := Lib.hid (fun w' (h : Below w.heap.size w w') => alive_any m w' (hmb w' h) (Nat.le_trans h0 h.size))
  obtain ⟨f, rfl⟩ : ∃ n : Nat, f = n := ⟨f.toNat, by omega⟩
  obtain ⟨c, rfl⟩ : ∃ n : Nat, c = n := ⟨c.toNat, by omega⟩
  by_cases hs1 : s.size ≤ 8192
  · have h1 := Lib.hid (split_any s (by omega) m w hm)
    have h2 := Lib.hid (fun w' => refSplit_any s (by omega) w')
    have h3 := Lib.hid (fun w' (h : Below w.heap.size w w') => section_any s kind (by omega) m w' (hmb w' h))
    have h4 := Lib.hid (fun w' => refSection_any s kind (by omega) w')
    have h5 := Lib.hid (fun w' => cut_any s f c (by omega) (by omega) (by omega) w')
    have h6 := Lib.hid (fun w' => refCut_any s f c (by omega) (by omega) (by omega) w')
    clear hm hmb hf0 hf hc0 hc
    go_enter Tryd.func6, Tryd.ntmps6
    go_wp2_with fail
    refine h1.out.mono ?_
    rintro e w1 ⟨hd, tx, rfl, hht, dr, rfl⟩
    have b1 : Hid (Below w.heap.size w (w.drewN dr)) := Lib.hid (below_drewN (Below.refl _ _) dr)
    clear h1
    go_wp2_with fail
    refine (h2.out _).mono ?_
    rintro e w2 ⟨hd2, tx2, rfl, hht2, dr2, rfl⟩
    have q1 := eq_both hht.out.1 hht2.out.1
    have q2 := eq_both hht.out.2 hht2.out.2
    have b2 : Hid (Below w.heap.size w ((w.drewN dr).drewN dr2)) := Lib.hid (below_drewN b1.out dr2)
    clear hht hht2 h2 b1
    generalize (w.drewN dr).drewN dr2 = w2 at b2 ⊢
    go_wp2_with fail
    refine (hal.out w2 b2.out).mono ?_
    rintro e w3 ⟨rfl, b3⟩
    have c3 := Lib.hid (b2.out.trans (b3.out.mono b2.out.size))
    clear hal
    go_wp2_with fail
    refine (h3.out w3 c3.out).mono ?_
    rintro e w4 ⟨u4, rfl, hu4, b4⟩
    have c4 := Lib.hid (c3.out.trans (b4.out.mono c3.out.size))
    clear h3
    go_wp2_with fail
    refine (h4.out w4).mono ?_
    rintro e w5 ⟨u5, rfl, hu5, b5⟩
    have c5 := Lib.hid (c4.out.trans (b5.out.mono c4.out.size))
    have q3 := eq_both hu4.out hu5.out
    clear h4 hu4 hu5
    go_wp2_with fail
    refine (h5.out w5).mono ?_
    rintro e w6 ⟨u6, rfl, hu6, rfl⟩
    clear h5
    go_wp2_with fail
    refine (h6.out w5).mono ?_
    rintro e w7 ⟨u7, rfl, hu7, b7⟩
    have c7 := Lib.hid (c5.out.trans (b7.out.mono c5.out.size))
    have q4 := eq_both hu6.out hu7.out
    clear h6 hu6 hu7
    go_wp2_with fail
    go_ret
    exact ⟨rfl, c7.out⟩
  · have hal1 := Lib.hid (hal.out w (Below.refl _ _))
    clear hal hmb hm hf0 hf hc0 hc
    go_enter Tryd.func6, Tryd.ntmps6
    go_wp2_with fail
    refine hal1.out.mono ?_
    rintro e w1 ⟨rfl, b1⟩
    go_wp2_with fail
    go_ret
    exact ⟨rfl, b1.out⟩
end Go.Proofs.YtgijkpbeokclkaaDoor
