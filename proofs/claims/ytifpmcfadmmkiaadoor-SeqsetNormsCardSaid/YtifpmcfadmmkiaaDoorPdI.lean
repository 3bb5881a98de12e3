/- slices.Sort at uint64: walked, at whatever length. -/
import Derived.Test.YtifpmcfadmmkiaaDoorPdH
import Derived.Test.YtifpmcfadmmkiaaDoorSqO
namespace Go.Proofs.YtifpmcfadmmkiaaDoor
open Go.RowKit

theorem bitLen_small {n : Nat} (h : n ≤ 1048576) : Lib.bitLen n ≤ 1000 := Nat.le_trans (Lib.bitLen_le n 62 (by omega) (by omega)) (by omega)
set_option maxRecDepth 100000 in
set_option maxHeartbeats 4000000 in
theorem sort_all : SortOk 1000000 := by
  intro W B v ss hlen hB hown
  rcases hown.row with ⟨rfl, rfl⟩ | ⟨g, rest, cap, rfl, hg, hback, hrow⟩
  · have hp := Lib.hid pdq_nil
    replace hown := Lib.hid hown
    have hl := Lib.hid (fun (w : World) => Tryd.bits_Len 0 w (by omega) (by omega))
    go_enter Tryd.func39, Tryd.ntmps39
    go_wp2_with fail
    refine (hl.out _).mono ?_
    rintro e w1 ⟨rfl, rfl⟩
    go_wp2_with fail
    refine (hp.out _ _).mono ?_
    rintro e w1 ⟨rfl, rfl⟩
    go_wp2_with fail
    go_end0
    exact ⟨rfl, [], hown, Lib.hid ⟨List.Perm.refl _, List.Pairwise.nil⟩, Lib.hid (Below.refl B _)⟩
  · have hbl := bitLen_small (n := ss.length) (by omega)
    obtain ⟨lim, hlim⟩ : ∃ lim, Lib.bitLen ss.length = lim := ⟨_, rfl⟩
    rw [hlim] at hbl
    have hp := Lib.hid (pdq_all (ss.length - 0) g cap ss rest 0 ss.length lim W rfl (Nat.zero_le _) (Nat.le_refl _) (by omega) (fun q h0 _ _ => by omega) hbl hrow)
    replace hback := Lib.hid hback
    have hl := Lib.hid (fun (w : World) => Tryd.bits_Len (ss.length : Int) w (by omega) (by omega))
    rw [Int.toNat_natCast, hlim] at hl
    clear hrow hown hlim hbl
    go_enter Tryd.func39, Tryd.ntmps39
    go_wp2_with fail
    refine (hl.out _).mono ?_
    rintro e w1 ⟨rfl, rfl⟩
    go_wp2_with fail
    refine hp.out.mono ?_
    rintro e w1 ⟨rfl, l', h1, h2, h3⟩
    have g1 := Lib.hid (hback.out w1 l' h2.out.1.len h1.out)
    have g2 := Lib.hid (And.intro h2.out.1.1 (SortedOn.pairwise (by rw [h2.out.1.len]; exact h2.out.2)))
    have g3 := Lib.hid (h3.out.below hg hB)
    go_wp2_with fail
    go_end0
    exact ⟨rfl, l', g1, g2, g3⟩
end Go.Proofs.YtifpmcfadmmkiaaDoor
