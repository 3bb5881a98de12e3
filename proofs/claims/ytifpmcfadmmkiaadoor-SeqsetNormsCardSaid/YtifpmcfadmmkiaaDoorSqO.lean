/- slices.Sort on 12 numbers or fewer: walked. -/
import Derived.Test.YtifpmcfadmmkiaaDoorSqN
import Derived.Test.YtifpmcfadmmkiaaDoorShelfS
namespace Go.Proofs.YtifpmcfadmmkiaaDoor
open Go.RowKit

set_option maxRecDepth 100000 in
set_option maxHeartbeats 4000000 in
theorem pdq_few (g cap : Nat) (l0 : List Nat) (rest : List Value) (k : Int) (hlen : l0.length ≤ 12) (W0 : World) (hr : Row W0 g l0 rest) :
    Calls Tryd.prog 49 #[.slice (some ⟨g, 0, none⟩) l0.length cap, .int .i64 0, .int .i64 l0.length, .int .i64 k] W0 fun e W' => e = .returned (.tuple #[]) ∧ ∃ l', Hid (Row W' g l' rest) ∧ Hid (Turned 0 l0.length l0 l' ∧ SortedOn l' 0 l0.length) ∧ Hid (Kept1 W0 g W') := by
  have hi := Lib.hid (insertion_any g cap l0 rest 0 l0.length (Nat.zero_le _) (Nat.le_refl _) (by omega) W0 hr)
  have hd : decide ((l0.length : Int) ≤ 12) = true := by simp; omega
  clear hr
  go_enter Tryd.func49, Tryd.ntmps49
  go_wp2_with fail
  go_loopw [1, 2] (fun v1 v2 wr => v1 = .int .i64 0 ∧ v2 = .int .i64 (l0.length : Int) ∧ wr = W0) (fun _ _ _ => 0)
  case atStart => exact ⟨rfl, rfl, rfl⟩
  case round =>
    obtain ⟨rfl, rfl, rfl⟩ := hrel
    go_wp2_with fail
    refine hi.out.mono ?_
    rintro e w1 ⟨rfl, l', h1, h2, h3⟩
    go_wp2_with fail
    (try simp only [Exit.inBlock, Exit.then])
    refine bodyPost_ret (results_none rfl _ _ _) rfl ?_
    exact ⟨rfl, l', h1, h2, h3⟩

/-- a row of the call's own of few numbers, as a row that is written in place -/
theorem OwnN.row {W : World} {B : Nat} {v : Value} {ss : List Nat} (h : OwnN W B v ss) : (v = .slice none 0 0 ∧ ss = []) ∨ ∃ g rest cap, v = .slice (some ⟨g, 0, none⟩) ss.length cap ∧ B ≤ g ∧ (∀ W' (ts : List Nat), ts.length = ss.length → Row W' g ts rest → OwnN W' B (.slice (some ⟨g, 0, none⟩) ss.length cap) ts) ∧ Row W g ss rest := by
  rcases h.2 with ⟨rfl, hn⟩ | ⟨g, cap, cur, rfl, hb, hg, hc, hm, hs, ht⟩
  · exact .inl ⟨rfl, List.eq_nil_of_length_eq_zero hn⟩
  · refine .inr ⟨g, cur.toList.drop (ss.length * 1), cap, rfl, hb, ?_, ?_⟩
    · intro W' ts hl hr
      unfold Row at hr
      refine ⟨by simp, .inr ⟨g, cap, _, by rw [hl], hb, hr, by omega, hm, ?_, ?_⟩⟩
      · simp
        omega
      · simp
    · unfold Row
      rw [← ht, List.take_append_drop]
      exact hg
set_option maxRecDepth 100000 in
set_option maxHeartbeats 4000000 in
theorem insertion_nil (W0 : World) : Calls Tryd.prog 59 #[.slice none 0 0, .int .i64 0, .int .i64 0] W0 fun e W' => e = .returned (.tuple #[]) ∧ W' = W0 := by
  go_enter Tryd.func59, Tryd.ntmps59
  go_wp2_with fail
  go_loopw [6] (fun v6 wr => v6 = .int .i64 1 ∧ wr = W0) (fun _ _ => 0)
  case atStart => exact ⟨rfl, rfl⟩
  case round =>
    obtain ⟨rfl, rfl⟩ := hrel
    go_wp2_with fail
    go_end0
    exact ⟨rfl, rfl⟩
set_option maxRecDepth 100000 in
set_option maxHeartbeats 4000000 in
theorem pdq_nil (k : Int) (W0 : World) :
    Calls Tryd.prog 49 #[.slice none 0 0, .int .i64 0, .int .i64 0, .int .i64 k] W0 fun e W' => e = .returned (.tuple #[]) ∧ W' = W0 := by
  have hi := Lib.hid insertion_nil
  go_enter Tryd.func49, Tryd.ntmps49
  go_wp2_with fail
  go_loopw [1, 2] (fun v1 v2 wr => v1 = .int .i64 0 ∧ v2 = .int .i64 0 ∧ wr = W0) (fun _ _ _ => 0)
  case atStart => exact ⟨rfl, rfl, rfl⟩
  case round =>
    obtain ⟨rfl, rfl, rfl⟩ := hrel
    go_wp2_with fail
    refine (hi.out _).mono ?_
    rintro e w1 ⟨rfl, rfl⟩
    go_wp2_with fail
    (try simp only [Exit.inBlock, Exit.then])
    refine bodyPost_ret (results_none rfl _ _ _) rfl ?_
    exact ⟨rfl, rfl⟩
theorem Kept1.below {W W' : World} {g B : Nat} (h : Kept1 W g W') (hb : B ≤ g) (hs : B ≤ W.heap.size) : Below B W W' where
  os := h.1
  tape := h.2.1
  output := h.2.2.1
  size := h.2.2.2.1
  block := fun k hk => h.2.2.2.2 k (by omega) (by omega)
theorem SortedOn.pairwise {l : List Nat} (h : SortedOn l 0 l.length) : l.Pairwise (· ≤ ·) := by
  rw [List.pairwise_iff_getElem]
  intro i j hi hj hij
  have := h i j (Nat.zero_le _) hij hj
  rwa [at_lt hi, at_lt hj] at this
set_option maxRecDepth 100000 in
set_option maxHeartbeats 4000000 in
theorem sort_few : SortOk 12 := by
  intro W B v ss hlen hB hown
  rcases hown.row with ⟨rfl, rfl⟩ | ⟨g, rest, cap, rfl, hg, hback, hrow⟩
  · have hp := Lib.hid pdq_nil
    replace hown := Lib.hid hown
    have hl := Lib.hid (fun (w : World) => Tryd.bits_Len 0 w (by omega) (by omega))
    go_enter Tryd.func39, Tryd.ntmps39
    go_wp2_with fail
    refine (hl.out _).mono ?_
    rintro e w1 ⟨rfl, rfl⟩
    go_wp2_with fail
    refine (hp.out _ _).mono ?_
    rintro e w1 ⟨rfl, rfl⟩
    go_wp2_with fail
    go_end0
    exact ⟨rfl, [], hown, Lib.hid ⟨List.Perm.refl _, List.Pairwise.nil⟩, Lib.hid (Below.refl B _)⟩
  · have hp := Lib.hid (fun k => pdq_few g cap ss rest k hlen W hrow)
    replace hback := Lib.hid hback
    have hl := Lib.hid (fun (w : World) => Tryd.bits_Len (ss.length : Int) w (by omega) (by omega))
    clear hrow hown
    go_enter Tryd.func39, Tryd.ntmps39
    go_wp2_with fail
    refine (hl.out _).mono ?_
    rintro e w1 ⟨rfl, rfl⟩
    go_wp2_with fail
    refine (hp.out _).mono ?_
    rintro e w1 ⟨rfl, l', h1, h2, h3⟩
    have g1 := Lib.hid (hback.out w1 l' h2.out.1.len h1.out)
    have g2 := Lib.hid (And.intro h2.out.1.1 (SortedOn.pairwise (by rw [h2.out.1.len]; exact h2.out.2)))
    have g3 := Lib.hid (h3.out.below hg hB)
    go_wp2_with fail
    go_end0
    exact ⟨rfl, l', g1, g2, g3⟩
end Go.Proofs.YtifpmcfadmmkiaaDoor
