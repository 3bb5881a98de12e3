/- heapSort, reverseRange: walked. -/
import Derived.Test.YtifpmcfadmmkiaaDoorPdA
namespace Go.Proofs.YtifpmcfadmmkiaaDoor
open Go.RowKit

theorem tdiv2 (m : Nat) : Int.tdiv (m : Int) 2 = ((m / 2 : Nat) : Int) := by
  rw [Int.tdiv_eq_ediv_of_nonneg (by omega)]; omega
set_option maxRecDepth 100000 in
set_option maxHeartbeats 4000000 in
theorem heapSort_any (g cap : Nat) (l0 : List Nat) (rest : List Value) (a n : Nat) (hn : 0 < n) (hfl : a + n ≤ l0.length) (hlen : l0.length ≤ 2305843009213693952) (W0 : World) (hr : Row W0 g l0 rest) :
    Calls Tryd.prog 60 #[.slice (some ⟨g, 0, none⟩) l0.length cap, .int .i64 a, .int .i64 ((a : Int) + (n : Int))] W0 fun e W' => e = .returned (.tuple #[]) ∧ ∃ l', Hid (Row W' g l' rest) ∧ Hid (Turned a (a + n) l0 l' ∧ SortedOn l' a (a + n)) ∧ Hid (Kept1 W0 g W') := by
  replace hr := Lib.hid hr
  obtain ⟨m, rfl⟩ : ∃ m, n = m + 1 := ⟨n - 1, by omega⟩
  have hs1 : (a : Int) + (((m + 1 : Nat)) : Int) - (a : Int) = (m : Int) + 1 := by omega
  have ht := tdiv2 m
  have e0 : (((m + 1 : Nat)) : Int) = (m : Int) + 1 := by omega
  rw [e0] at hs1 ⊢
  have hm2 : m / 2 ≤ m := Nat.div_le_self m 2
  obtain ⟨z2, hz2⟩ : ∃ z2, m / 2 = z2 := ⟨_, rfl⟩
  rw [hz2] at ht hm2
  have hz3 : Hid (m ≤ 2 * z2 + 1) := Lib.hid (by omega)
  clear hz2 e0
  go_enter Tryd.func60, Tryd.ntmps60
  go_wp2_with fail
  go_loopw [9] (fun v9 wr => ∃ (z : Int) (l : List Nat), v9 = .int .i64 z ∧ -1 ≤ z ∧ z ≤ m ∧ Hid (Row wr g l rest) ∧ Hid (Turned a (a + (m + 1)) l0 l ∧ HeapFrom l a (z + 1).toNat (m + 1)) ∧ Hid (Kept1 W0 g wr)) (fun v9 _ => (intOf v9 + 1).toNat)
  case atStart => exact ⟨z2, l0, rfl, by omega, by omega, hr, Lib.hid ⟨Turned.refl _ _ _, heap_none (by have := hz3.out; omega)⟩, Lib.hid (Kept1.refl _ _)⟩
  case round =>
    clear hr ht hz3 hm2
    obtain ⟨z, l, rfl, hz1, hzm, hrow, hts, hk⟩ := hrel
    have hll := hts.out.1.len
    by_cases hz0 : 0 ≤ z
    · obtain ⟨k, rfl⟩ : ∃ k : Nat, z = k := ⟨z.toNat, by omega⟩
      have hc := sift_any g cap l rest k (m + 1) a (by omega) (by omega) (by omega) wr hrow.out (by have := hts.out.2; rwa [show ((k : Int) + 1).toNat = k + 1 by omega] at this)
      rw [hll, show (((m + 1 : Nat)) : Int) = (m : Int) + 1 by omega] at hc
      replace hc := Lib.hid hc
      go_wp2_with fail
      refine hc.out.mono ?_
      rintro e w1 ⟨rfl, l', h1, h2, h3⟩
      have hh := Lib.hid (show Turned a (a + (m + 1)) l0 l' ∧ HeapFrom l' a ((k : Int) - 1 + 1).toNat (m + 1) from ⟨hts.out.1.trans (h2.out.1.wide (by omega) (by omega)), by rw [show ((k : Int) - 1 + 1).toNat = k by omega]; exact h2.out.2⟩)
      have hk2 := Lib.hid (hk.out.trans h3.out)
      clear hc hts hk h2 h3
      go_wp2_with fail
      go_roundw
      case rel => exact ⟨(k : Int) - 1, l', by go_num, by omega, by omega, h1, hh, hk2⟩
      case measure => simp [intOf] <;> omega
    · obtain rfl : z = -1 := by omega
      have hh := Lib.hid (show Turned a (a + (m + 1)) l0 l ∧ HeapFrom l a 0 (m + 1) from hts.out)
      clear hts
      go_wp2_with fail
      go_loopw [10] (fun v10 wr => ∃ (z : Int) (l : List Nat), v10 = .int .i64 z ∧ -1 ≤ z ∧ z ≤ m ∧ Hid (Row wr g l rest) ∧ Hid (Turned a (a + (m + 1)) l0 l ∧ HeapFrom l a 0 (z + 1).toNat ∧ Tail l a (a + (m + 1)) (a + (z + 1).toNat)) ∧ Hid (Kept1 W0 g wr)) (fun v10 _ => (intOf v10 + 1).toNat)
      case atStart => exact ⟨m, l, by go_num, by omega, by omega, hrow, Lib.hid ⟨hh.out.1, by rw [show ((m : Int) + 1).toNat = m + 1 by omega]; exact hh.out.2, fun p q h1 h2 h3 h4 => by omega⟩, hk⟩
      case round =>
        clear hh hrow hk hll
        obtain ⟨z, l, rfl, hz1, hzm, hrow, hts, hk⟩ := hrel
        have hll := hts.out.1.len
        by_cases hz0 : 0 ≤ z
        · obtain ⟨k, rfl⟩ : ∃ k : Nat, z = k := ⟨z.toNat, by omega⟩
          have ek : ((k : Int) + 1).toNat = k + 1 := by omega
          have hts' := hts.out
          rw [ek] at hts'
          have b1 : (a : Int) + (k : Int) < (l0.length : Int) := by omega
          have b2 : (a : Int) < (l0.length : Int) := by omega
          have ca := hrow.out.at a (by omega)
          have ck := hrow.out.at (a + k) (by omega)
          have fa := hrow.out.free a
          have fk := hrow.out.free (a + k)
          have hlsw := swp_len l a (a + k)
          have hpop := heap_pop1 hts'.2.1 (by omega)
          have hc := fun W h => sift_any g cap (swp l a (a + k)) rest 0 k a (by omega) (by omega) (by omega) W h hpop
          rw [hlsw, hll] at hc
          have hsw := Lib.hid (fun (W : World) (h : Row W g l rest) => h.swapW a (a + k) (by omega) (by omega))
          have hfin := Lib.hid (fun l2 (h : Turned a (a + k) (swp l a (a + k)) l2) (hp : HeapFrom l2 a 0 k) => show Turned a (a + (m + 1)) l0 l2 ∧ HeapFrom l2 a 0 ((k : Int) - 1 + 1).toNat ∧ Tail l2 a (a + (m + 1)) (a + ((k : Int) - 1 + 1).toNat) from by
            rw [show ((k : Int) - 1 + 1).toNat = k by omega]
            exact ⟨(hts'.1.trans (Turned.swp l a (a + k) ⟨by omega, by omega⟩ ⟨by omega, by omega⟩ (by omega))).trans (h.wide (by omega) (by omega)), hp, heap_pop2 hts'.2.1 hts'.2.2 (by omega) (by omega) h⟩)
          replace hc := Lib.hid hc
          clear hts hts' hpop hlsw ek
          generalize swp l a (a + k) = ls at hsw hc hfin
          by_cases hk0 : k = 0
          · subst hk0
            have ca2 : wr.cell? ⟨g, a, none⟩ = some (.int .u64 (at_ l a : Nat)) := ca
            simp only [Nat.add_zero] at hsw
            clear ck fk
            generalize at_ l a = x at ca hsw
            clear ca2
            go_wp2_with fail
            go_region
            have hrow3 := Lib.hid (hsw.out _ hrow.out)
            have hk3 := Lib.hid (hk.out.swapW a a (.int .u64 x) (.int .u64 x))
            clear hsw ca fa hrow hk
            generalize ((wr.setCell ⟨g, a, none⟩ (.int .u64 (x : Nat))).setCell ⟨g, a, none⟩ (.int .u64 (x : Nat))).drew = w3 at hrow3 hk3 ⊢
            have hc3 := Lib.hid (hc.out w3 hrow3.out)
            clear hc
            go_wp2_with fail
            refine hc3.out.mono ?_
            rintro e w1 ⟨rfl, l', h1, h2, h3⟩
            have hh := Lib.hid (hfin.out l' (by simpa using h2.out.1) h2.out.2)
            have hk2 := Lib.hid (hk3.out.trans h3.out)
            clear hc3 h2 h3 hfin
            go_wp2_with fail
            go_roundw
            case rel => exact ⟨((0 : Nat) : Int) - 1, l', by go_num, by omega, by omega, h1, hh, hk2⟩
            case measure => simp [intOf] <;> omega
          · have hne : a ≠ a + k := by omega
            generalize at_ l a = x at ca hsw
            generalize at_ l (a + k) = y at ck hsw
            go_wp2_with fail
            go_region
            have hrow3 := Lib.hid (hsw.out _ hrow.out)
            have hk3 := Lib.hid (hk.out.swapW a (a + k) (.int .u64 y) (.int .u64 x))
            clear hsw ca ck fa fk hrow hk
            generalize ((wr.setCell ⟨g, a, none⟩ (.int .u64 (y : Nat))).setCell ⟨g, a + k, none⟩ (.int .u64 (x : Nat))).drew = w3 at hrow3 hk3 ⊢
            have hc3 := Lib.hid (hc.out w3 hrow3.out)
            clear hc
            go_wp2_with fail
            refine hc3.out.mono ?_
            rintro e w1 ⟨rfl, l', h1, h2, h3⟩
            have hh := Lib.hid (hfin.out l' (by simpa using h2.out.1) h2.out.2)
            have hk2 := Lib.hid (hk3.out.trans h3.out)
            clear hc3 h2 h3 hfin
            go_wp2_with fail
            go_roundw
            case rel => exact ⟨(k : Int) - 1, l', by go_num, by omega, by omega, h1, hh, hk2⟩
            case measure => simp [intOf] <;> omega
        · obtain rfl : z = -1 := by omega
          have hh := Lib.hid (show Turned a (a + (m + 1)) l0 l ∧ SortedOn l a (a + (m + 1)) from ⟨hts.out.1, fun p q h1 h2 h3 => hts.out.2.2 p q h1 h2 h3 (by show a + 0 ≤ q; omega)⟩)
          clear hts
          go_wp2_with fail
          go_end0
          exact ⟨rfl, l, hrow, hh, hk⟩
set_option maxRecDepth 100000 in
set_option maxHeartbeats 4000000 in
theorem reverse_any (g cap : Nat) (l0 : List Nat) (rest : List Value) (a b : Nat) (hab : a < b) (hfl : b ≤ l0.length) (hlen : l0.length ≤ 2305843009213693952) (W0 : World) (hr : Row W0 g l0 rest) :
    Calls Tryd.prog 63 #[.slice (some ⟨g, 0, none⟩) l0.length cap, .int .i64 a, .int .i64 b] W0 fun e W' => e = .returned (.tuple #[]) ∧ ∃ l', Hid (Row W' g l' rest) ∧ Hid (Turned a b l0 l') ∧ Hid (Kept1 W0 g W') := by
  replace hr := Lib.hid hr
  go_enter Tryd.func63, Tryd.ntmps63
  go_wp2_with fail
  go_loopw [6, 7] (fun v6 v7 wr => ∃ (i : Nat) (z : Int) (l : List Nat), v6 = .int .i64 i ∧ v7 = .int .i64 z ∧ a ≤ i ∧ i ≤ b ∧ z < b ∧ (a : Int) - 1 ≤ z ∧ Hid (Row wr g l rest) ∧ Hid (Turned a b l0 l) ∧ Hid (Kept1 W0 g wr)) (fun v6 v7 _ => (intOf v7 - intOf v6).toNat)
  case atStart => exact ⟨a, (b : Int) - 1, l0, rfl, by go_num, Nat.le_refl _, by omega, by omega, by omega, hr, Lib.hid (Turned.refl _ _ _), Lib.hid (Kept1.refl _ _)⟩
  case round =>
    clear hr
    obtain ⟨i, z, l, rfl, rfl, hai, hib, hzb, haz, hrow, hts, hk⟩ := hrel
    have hll := hts.out.len
    by_cases hlt : (i : Int) < z
    · obtain ⟨j, rfl⟩ : ∃ j : Nat, z = j := ⟨z.toNat, by omega⟩
      have hij : i < j := by omega
      have b1 : (i : Int) < (l0.length : Int) := by omega
      have b2 : (j : Int) < (l0.length : Int) := by omega
      have ca := hrow.out.at i (by omega)
      have ck := hrow.out.at j (by omega)
      have fa := hrow.out.free i
      have fk := hrow.out.free j
      have hne : i ≠ j := by omega
      have hsw := Lib.hid (fun (W : World) (h : Row W g l rest) => h.swapW i j (by omega) (by omega))
      have hh := Lib.hid (hts.out.trans (Turned.swp l i j ⟨by omega, by omega⟩ ⟨by omega, by omega⟩ (by omega)))
      clear hts
      generalize swp l i j = ls at hsw hh
      generalize at_ l i = x at ca hsw
      generalize at_ l j = y at ck hsw
      go_wp2_with fail
      go_region
      have hrow3 := Lib.hid (hsw.out _ hrow.out)
      have hk3 := Lib.hid (hk.out.swapW i j (.int .u64 y) (.int .u64 x))
      clear hsw ca ck fa fk hrow hk
      generalize ((wr.setCell ⟨g, i, none⟩ (.int .u64 (y : Nat))).setCell ⟨g, j, none⟩ (.int .u64 (x : Nat))).drew = w3 at hrow3 hk3 ⊢
      go_wp2_with fail
      go_roundw
      case rel => exact ⟨i + 1, (j : Int) - 1, ls, by go_num, by go_num, by omega, by omega, by omega, by omega, hrow3, hh, hk3⟩
      case measure => simp [intOf] <;> omega
    · have hle : z ≤ (i : Int) := by omega
      go_wp2_with fail
      go_end0
      exact ⟨rfl, l, hrow, hts, hk⟩
end Go.Proofs.YtifpmcfadmmkiaaDoor
