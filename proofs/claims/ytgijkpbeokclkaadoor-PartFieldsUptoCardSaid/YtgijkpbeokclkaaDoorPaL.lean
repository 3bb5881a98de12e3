/- PartWhole: walked; the walks as the cards call them. -/
import Derived.Test.YtgijkpbeokclkaaDoorPaK
import Derived.Shelf.LaysM
import Derived.OpenShut
namespace Go.Proofs.YtgijkpbeokclkaaDoor
open Go.RowKit

theorem maxlen_cell {W : World} (h : W.ShapedOpen Tryd.prog) : ∃ m, W.cell? ⟨0, 0, none⟩ = some (.int .i64 m) :=
  Go.Proofs.cell_of_shapedOpen_int (zero := #[.int .i64 0]) (t := 3) h (of_decide_eq_true (by kernel_rfl)) (by kernel_rfl) rfl (by kernel_rfl) (by kernel_rfl) Tryd.underlying3
theorem heap_pos {W : World} {m : Int} (h : W.cell? ⟨0, 0, none⟩ = some (.int .i64 m)) : 1 ≤ W.heap.size := World.block_lt_of_cell? W ⟨0, 0, none⟩ h
theorem partHolds_card (s u : ByteArray) (hs : s.size < 140737488355328) (hu : u.size < 140737488355328) (w : World) (hm : ∃ m, w.cell? ⟨0, 0, none⟩ = some (.int .i64 m)) :
    Calls Tryd.prog 4 #[.string s, .string u] w fun e w' => e = .returned (.bool true) ∧ Below w.heap.size w w' := by
  obtain ⟨m, hm⟩ := hm
  exact partHolds_any s u (by omega) (by omega) m w hm (heap_pos hm)
theorem wf_u64 {n : Int} (h : (Lit.int .u64 n).wf = true) : 0 ≤ n ∧ n < 18446744073709551616 := by
  have := bounds_u64 h
  omega
theorem partSplits_card (s : ByteArray) (kind f c : Int) (hs : s.size < 140737488355328) (_ : (Lit.int .i64 kind).wf = true) (hf : (Lit.int .u64 f).wf = true) (hc : (Lit.int .u64 c).wf = true) (w : World) (hm : ∃ m, w.cell? ⟨0, 0, none⟩ = some (.int .i64 m)) :
    Calls Tryd.prog 6 #[.string s, .int .i64 kind, .int .u64 f, .int .u64 c] w fun e w' => e = .returned (.bool true) ∧ Below w.heap.size w w' := by
  obtain ⟨m, hm⟩ := hm
  exact partSplits_any s kind f c (by omega) (wf_u64 hf).1 (wf_u64 hf).2 (wf_u64 hc).1 (wf_u64 hc).2 m w hm (heap_pos hm)
theorem split_cat (m : List UInt8) : (splitM m).1 ++ (splitM m).2 = m := by
  rw [splitM]
  split
  · exact List.take_append_drop _ _
  · split
    · exact List.append_nil _
    · exact List.take_append_drop _ _
set_option maxRecDepth 100000 in
set_option maxHeartbeats 1000000 in
theorem partWhole_any (s : ByteArray) (c : Int) (hs : s.size ≤ 1048576) (hc : (Lit.int .u64 c).wf = true) (w : World) (hm : ∃ m, w.cell? ⟨0, 0, none⟩ = some (.int .i64 m)) :
    Calls Tryd.prog 7 #[.string s, .int .u64 c] w fun e w' => e = .returned (.bool true) ∧ Below w.heap.size w w' := by
  obtain ⟨m, hm⟩ := hm
  have h0 := heap_pos hm
  obtain ⟨hc0, hc1⟩ := wf_u64 hc
  clear hc
  obtain ⟨c, rfl⟩ : ∃ n : Nat, c = n := ⟨c.toNat, by omega⟩
  have hmb := fun w' (h : Below w.heap.size w w') => (h.cell (p := ⟨0, 0, none⟩) (by show 0 < _; omega)).trans hm
  have hal := Lib.hid (alive_any m w hm h0)
  have h1 := Lib.hid (fun w' (h : Below w.heap.size w w') => split_any s (by omega) m w' (hmb w' h))
  have h2 := fun kind w' (h : Below w.heap.size w w') => section_any s kind (by omega) m w' (hmb w' h)
  have h11 := Lib.hid (h2 11)
  have h12 := Lib.hid (h2 12)
  have h10 := Lib.hid (h2 10)
  have hc2 : c < 18446744073709551616 := by omega
  clear h2 hmb hm hc0 hc1
  go_enter Tryd.func7, Tryd.ntmps7
  go_wp2_with fail
  refine hal.out.mono ?_
  rintro e w1 ⟨rfl, b1⟩
  clear hal
  go_wp2_with fail
  refine (h1.out w1 b1.out).mono ?_
  rintro e w2 ⟨hd, tx, rfl, hht, dr, rfl⟩
  have b2 : Hid (Below w.heap.size w (w1.drewN dr)) := Lib.hid (below_drewN b1.out dr)
  have q1 : ((hd ++ tx).toList == s.toList) = true := eq_both (by rw [toList_app, hht.out.1, hht.out.2, split_cat]) rfl
  have q1n : ((hd ++ tx).toList != s.toList) = false := by rw [bne, q1]; rfl
  have hsz1 : hd.size + tx.size = s.size := by
    have := split_cat s.data.toList
    rw [← hht.out.1, ← hht.out.2] at this
    have := congrArg List.length this
    rw [List.length_append] at this
    exact this
  clear h1 hht
  generalize w1.drewN dr = w2 at b2 ⊢
  go_wp2_with fail
  refine (h11.out w2 b2.out).mono ?_
  rintro e w3 ⟨u3, rfl, hu3, b3⟩
  have c3 := Lib.hid (b2.out.trans (b3.out.mono b2.out.size))
  clear h11
  go_wp2_with fail
  refine (h12.out w3 c3.out).mono ?_
  rintro e w4 ⟨u4, rfl, hu4, b4⟩
  have c4 := Lib.hid (c3.out.trans (b4.out.mono c3.out.size))
  have hsz2 : u3.size + u4.size = s.size := by
    have := split_cat s.data.toList
    have e3 : u3.data.toList = (splitM s.data.toList).1 := hu3.out
    have e4 : u4.data.toList = (splitM s.data.toList).2 := hu4.out
    rw [← e3, ← e4] at this
    have := congrArg List.length this
    rw [List.length_append] at this
    exact this
  clear h12
  go_wp2_with fail
  refine (h10.out w4 c4.out).mono ?_
  rintro e w5 ⟨u5, rfl, hu5, b5⟩
  have c5 := Lib.hid (c4.out.trans (b5.out.mono c4.out.size))
  have q2 : ((u3 ++ u4).toList == u5.toList) = true := eq_both (l := s.data.toList) (by
    have e3 : u3.data.toList = (splitM s.data.toList).1 := hu3.out
    have e4 : u4.data.toList = (splitM s.data.toList).2 := hu4.out
    rw [toList_app, e3, e4, split_cat]) hu5.out
  have q2n : ((u3 ++ u4).toList != u5.toList) = false := by rw [bne, q2]; rfl
  clear h10 hu3 hu4 hu5 hsz1 hsz2 q1 q1n q2n
  by_cases hbig : s.size ≤ 4096
  · go_wp2_with fail
    obtain ⟨n, hn, hn1, hn2⟩ : ∃ n : Nat, 1 + (c : Int) % 64 = n ∧ 1 ≤ n ∧ n ≤ 64 := ⟨1 + c % 64, by omega, by omega, by omega⟩
    rw [hn]
    clear hn
    go_loopw [7, 8] (fun v i wr => ∃ (k : Nat) (o : ByteArray), k ≤ s.size + 64 ∧ o.size ≤ s.size ∧ i = .int .u64 k ∧ v = .string o ∧ Hid (o.data.toList = s.data.toList.take k) ∧ wr = w5) (fun _ i _ => s.size + 64 - (intOf i).toNat)
    case atStart => exact ⟨0, _, Nat.zero_le _, Nat.zero_le _, rfl, rfl, Lib.hid rfl, rfl⟩
    case round =>
      obtain ⟨k, o, hk, ho, rfl, rfl, hp, rfl⟩ := hrel
      by_cases hlt : k < s.size
      · have hcut := Lib.hid (cut_any s k n (by omega) (by omega) (by omega) wr)
        have hcl : (cutL s.data.toList k n).length ≤ n ∧ 0 < (cutL s.data.toList k n).length ∧ (cutL s.data.toList k n).length ≤ s.size - k := by
          have e : s.data.toList.length = s.size := rfl
          rw [cutL, List.length_take, List.length_drop, e]; omega
        have hnx : Hid (s.data.toList.take (k + n) = s.data.toList.take k ++ cutL s.data.toList k n) := Lib.hid (by rw [cutL, ← List.take_add])
        have hok : o.size ≤ k := by rw [size_of_list hp.out, List.length_take]; omega
        go_wp2_with fail
        refine hcut.out.mono ?_
        rintro e w6 ⟨u, rfl, hu, rfl⟩
        have hus := size_of_list hu.out
        rw [← hus] at hcl
        obtain ⟨hc1, hc3, hc4⟩ := hcl
        clear hcut hus
        have hz : ((u.size : Int) == 0) = false := beq_eq_false_iff_ne.2 (by omega)
        have hn3 : Hid ((o ++ u).data.toList = s.data.toList.take (k + n)) := Lib.hid (by rw [toList_app, hp.out, hu.out, hnx.out])
        go_wp2_with fail
        go_roundw
        case rel => exact ⟨k + n, _, by omega, by rw [ByteArray.size_append]; omega, by rw [Int.natCast_add], rfl, hn3, trivial⟩
        case measure => simp [intOf]; omega
      · have hq : (o.toList == s.toList) = true := eq_both hp.out (List.take_of_length_le (Nat.le_of_not_lt hlt)).symm
        go_wp2_with fail
        go_ret
        exact ⟨rfl, c5.out⟩
  · go_wp2_with fail
    go_ret
    exact ⟨rfl, c5.out⟩
end Go.Proofs.YtgijkpbeokclkaaDoor
