/- partialInsertionSort: walked. (written by gen_PdC.py) partitionEqual: walked. (written by gen_PdD.py) -/
import Derived.Test.YtcnebfmlelcliaaB13
import Derived.Deep.CutRange
namespace Go.Proofs.Ytcnebfmlelcliaa
open Go.RowKit

theorem SortedOn.above {l : List Nat} {a m i j : Nat} (h : SortedOn l a m) (hi : m ≤ i) (hj : m ≤ j) (hil : i < l.length) (hjl : j < l.length) : SortedOn (swp l i j) a m := fun p q h1 h2 h3 => by
  rw [swp_at l i j p hil hjl, swp_at l i j q hil hjl, if_neg (by omega), if_neg (by omega), if_neg (by omega), if_neg (by omega)]
  exact h p q h1 h2 h3
theorem SortedOn.less {l : List Nat} {a m k : Nat} (h : SortedOn l a m) (hk : k ≤ m) : SortedOn l a k := fun p q h1 h2 h3 => h p q h1 h2 (by omega)
theorem SortedOn.one (l : List Nat) (a : Nat) : SortedOn l a (a + 1) := fun p q h1 h2 h3 => by omega
theorem SortedOn.snoc {l : List Nat} {a k : Nat} (h : SortedOn l a (k + 1)) (hak : a ≤ k) (hn : ¬ at_ l (k + 1) < at_ l k) : SortedOn l a (k + 1 + 1) := fun p q h1 h2 h3 => by
  by_cases hq : q = k + 1
  · subst hq
    by_cases hp : p = k
    · subst hp; omega
    · have := h p k h1 (by omega) (by omega); omega
  · exact h p q h1 h2 (by omega)
theorem Low.not_less {l : List Nat} {a b k : Nat} (h : Low l a b) (hb : a < b) (hka : k + 1 = a) : ¬ at_ l (k + 1) < at_ l k := by
  have := h a (by omega) (Nat.le_refl _) hb
  subst hka
  simpa using this
theorem hole_end {l : List Nat} {a t : Nat} (haj : a ≤ t + 1) (hlt : ¬ at_ l (t + 1) < at_ l t) : t + 1 = a ∨ (a < t + 1 ∧ ¬ at_ l (t + 1) < at_ l (t + 1 - 1)) := by
  by_cases e : t + 1 = a
  · exact .inl e
  · exact .inr ⟨by omega, hlt⟩
def PartRet (W0 : World) (g : Nat) (l0 : List Nat) (rest : List Value) (a b : Nat) (e : Ending) (W' : World) : Prop := ∃ (x : Bool) (l' : List Nat), e = .returned (.bool x) ∧ Hid (Row W' g l' rest) ∧ Hid (Turned a b l0 l' ∧ (x = true → SortedOn l' a b)) ∧ Hid (Kept1 W0 g W')
set_option maxRecDepth 100000 in
set_option maxHeartbeats 8000000 in
theorem partial_any (g cap : Nat) (l0 : List Nat) (rest : List Value) (a b : Nat) (hab : a < b) (hfl : b ≤ l0.length) (hlen : l0.length ≤ 2305843009213693952) (hlow : Low l0 a b) (W0 : World) (hr : Row W0 g l0 rest) :
    Calls Try.prog 77 #[.slice (some ⟨g, 0, none⟩) l0.length cap, .int .i64 a, .int .i64 b] W0 (PartRet W0 g l0 rest a b) := by
  replace hr := Lib.hid hr
  replace hlow := Lib.hid hlow
  have hle := Lib.hid less_any
  go_enter Try.func77, Try.ntmps77
  go_wp2_with fail
  go_loopw [7, 8] (fun v7 v8 wr => ∃ (k j : Nat) (l : List Nat), v7 = .int .i64 ((k : Int) + 1) ∧ v8 = .int .i64 j ∧ j ≤ 5 ∧ a ≤ k ∧ k < b ∧ Hid (Row wr g l rest) ∧ Hid (Turned a b l0 l ∧ SortedOn l a (k + 1)) ∧ Hid (Kept1 W0 g wr)) (fun _ v8 _ => 5 - (intOf v8).toNat)
  case atStart => exact ⟨a, 0, l0, rfl, rfl, by omega, Nat.le_refl _, hab, hr, Lib.hid ⟨Turned.refl _ _ _, SortedOn.one _ _⟩, Lib.hid (Kept1.refl _ _)⟩
  case round =>
    clear hr
    obtain ⟨k, j, l, rfl, rfl, hj5, hak, hkb, hrow, hts, hk⟩ := hrel
    by_cases hj : j < 5
    · have hj' : (j : Int) < 5 := by omega
      go_wp2_with fail
      go_loopw [7] (fun v7 wr => ∃ (k : Nat) (l : List Nat), v7 = .int .i64 ((k : Int) + 1) ∧ a ≤ k ∧ k < b ∧ Hid (Row wr g l rest) ∧ Hid (Turned a b l0 l ∧ SortedOn l a (k + 1)) ∧ Hid (Kept1 W0 g wr)) (fun v7 _ => b - (intOf v7).toNat)
      case atStart => exact ⟨k, l, rfl, hak, hkb, hrow, hts, hk⟩
      case round =>
        clear hrow hts hk hak hkb
        obtain ⟨k, l, rfl, hak, hkb, hrow, hts, hk⟩ := hrel
        have hll := hts.out.1.len
        by_cases hkb1 : k + 1 < b
        · have hb1 : (k : Int) + 1 < (l0.length : Int) := by omega
          have hb2 : (k : Int) < (l0.length : Int) := by omega
          have hd : decide ((k : Int) + 1 < (b : Int)) = true := by simp; omega
          have hk0 : (0 : Int) ≤ (k : Int) := by omega
          have ci := hrow.out.at (k + 1) (by omega)
          have cj := hrow.out.at (k) (by omega)
          have hcmp := Lib.hid (fun n => hle.out (at_ l (k + 1)) (at_ l (k)) (wr.drewN n))
          by_cases hlt : at_ l (k + 1) < at_ l (k)
          · have hne : ((k : Int) + 1 == (b : Int)) = false := by simp; omega
            rw [decide_eq_true hlt] at hcmp
            clear hlt
            generalize at_ l (k + 1) = x1 at ci hcmp
            generalize at_ l (k) = x2 at cj hcmp
            go_wp2_with fail
            go_quiet ((go_at_call 78; exact Calls.quiet_of_same (hcmp.out _)))
            replace hrow := Lib.hid (hrow.out.drewN nq)
            replace hk := Lib.hid (hk.out.drewN nq)
            generalize wr.drewN nq = w2 at hrow hk ⊢
            clear hcmp ci cj
            by_cases h50 : (b : Int) - (a : Int) < 50
            · have hh := Lib.hid (show Turned a b l0 l ∧ (false = true → SortedOn l a b) from ⟨hts.out.1, fun h => by cases h⟩)
              go_wp2_with fail
              (try simp only [Exit.inBlock, Exit.then])
              go_ret
              exact ⟨false, l, rfl, hrow, hh, hk⟩
            · have h50' : (50 : Int) ≤ (b : Int) - (a : Int) := by omega
              obtain ⟨R, hR⟩ : ∃ R : World → Prop, Hid (∀ wx, R wx ↔ ∃ l, Row wx g l rest ∧ (Turned a b l0 l ∧ SortedOn l a (k + 1)) ∧ Kept1 W0 g wx) := ⟨_, Lib.hid fun _ => Iff.rfl⟩
              have ci := hrow.out.at (k + 1) (by omega)
              have cj := hrow.out.at (k) (by omega)
              have fi := hrow.out.free (k + 1)
              have fj := hrow.out.free (k)
              have hsw := Lib.hid (fun (W : World) (h : Row W g l rest) => h.swapW (k + 1) (k) (by omega) (by omega))
              have hh := Lib.hid (show Turned a b l0 (swp l (k + 1) k) ∧ SortedOn (swp l (k + 1) k) a k from ⟨hts.out.1.trans (Turned.swp l (k + 1) k ⟨by omega, by omega⟩ ⟨by omega, by omega⟩ (by omega)), (hts.out.2.less (Nat.le_succ k)).above (by omega) (by omega) (by omega) (by omega)⟩)
              clear hts
              generalize swp l (k + 1) (k) = ls at hsw hh
              generalize at_ l (k + 1) = x1 at ci hsw
              generalize at_ l (k) = x2 at cj hsw
              go_wp2_with fail
              go_region
              replace hrow := Lib.hid (hsw.out _ hrow.out)
              replace hk := Lib.hid (hk.out.swapW (k + 1) (k) (.int .u64 x2) (.int .u64 x1))
              clear hsw ci cj fi fj
              generalize ((w2.setCell ⟨g, k + 1, none⟩ (.int .u64 (x2 : Nat))).setCell ⟨g, k, none⟩ (.int .u64 (x1 : Nat))).drew = w3 at hrow hk ⊢
              go_upto_if 61 with fail
              go_cut [9] from 13 to 132 (fun _ wx => R wx)
              case first =>
                by_cases h2 : 2 ≤ (k : Int) + 1 - (a : Int)
                · go_wp2_with fail
                  go_loopw [9] (fun v9 wr => ∃ (j : Nat) (l : List Nat), v9 = .int .i64 j ∧ a ≤ j ∧ j ≤ k ∧ Hid (Row wr g l rest) ∧ Hid (Turned a b l0 l ∧ Hole l a k j) ∧ Hid (Kept1 W0 g wr)) (fun v9 _ => (intOf v9).toNat)
                  case atStart => exact ⟨k, ls, by go_num, hak, Nat.le_refl _, hrow, Lib.hid ⟨hh.out.1, Hole.start hh.out.2⟩, hk⟩
                  case round =>
                    clear hrow hh hk
                    obtain ⟨j, l, rfl, haj, hjk, hrow, hts, hk⟩ := hrel
                    have hll := hts.out.1.len
                    by_cases hj1 : 1 ≤ j
                    · obtain ⟨t, rfl⟩ : ∃ t, j = t + 1 := ⟨j - 1, by omega⟩
                      have hc1 : (1 : Int) ≤ (t : Int) + 1 := by omega
                      have hb3 : (t : Int) + 1 < (l0.length : Int) := by omega
                      have hb4 : (t : Int) < (l0.length : Int) := by omega
                      have ht0 : (0 : Int) ≤ (t : Int) := by omega
                      have ci := hrow.out.at (t + 1) (by omega)
                      have cj := hrow.out.at (t) (by omega)
                      have hcmp := Lib.hid (fun n => hle.out (at_ l (t + 1)) (at_ l (t)) (wr.drewN n))
                      by_cases hlt : at_ l (t + 1) < at_ l (t)
                      · have hat : a < t + 1 := Nat.lt_of_le_of_ne haj (fun e => (hlow.out.turned hts.out.1 (by omega)).not_less hab e.symm hlt)
                        have hlt2 := Lib.hid (show at_ l (t + 1) < at_ l (t + 1 - 1) from hlt)
                        rw [decide_eq_true hlt] at hcmp
                        clear hlt
                        generalize at_ l (t + 1) = x1 at ci hcmp
                        generalize at_ l (t) = x2 at cj hcmp
                        go_wp2_with fail
                        go_quiet ((go_at_call 78; exact Calls.quiet_of_same (hcmp.out _)))
                        replace hrow := Lib.hid (hrow.out.drewN nq)
                        replace hk := Lib.hid (hk.out.drewN nq)
                        generalize wr.drewN nq = w2 at hrow hk ⊢
                        clear hcmp ci cj
                        have ci := hrow.out.at (t + 1) (by omega)
                        have cj := hrow.out.at (t) (by omega)
                        have fi := hrow.out.free (t + 1)
                        have fj := hrow.out.free (t)
                        have hsw := Lib.hid (fun (W : World) (h : Row W g l rest) => h.swapW (t + 1) (t) (by omega) (by omega))
                        have hh := Lib.hid (show Turned a b l0 (swp l (t + 1) t) ∧ Hole (swp l (t + 1) t) a k t from ⟨hts.out.1.trans (Turned.swp l (t + 1) t ⟨by omega, by omega⟩ ⟨by omega, by omega⟩ (by omega)), by have := hts.out.2.step hat hjk (by omega) hlt2.out; simpa using this⟩)
                        clear hlt2 hts
                        generalize swp l (t + 1) (t) = ls2 at hsw hh
                        generalize at_ l (t + 1) = x1 at ci hsw
                        generalize at_ l (t) = x2 at cj hsw
                        go_wp2_with fail
                        go_region
                        replace hrow := Lib.hid (hsw.out _ hrow.out)
                        replace hk := Lib.hid (hk.out.swapW (t + 1) (t) (.int .u64 x2) (.int .u64 x1))
                        clear hsw ci cj fi fj
                        generalize ((w2.setCell ⟨g, t + 1, none⟩ (.int .u64 (x2 : Nat))).setCell ⟨g, t, none⟩ (.int .u64 (x1 : Nat))).drew = w4 at hrow hk ⊢
                        go_wp2_with fail
                        go_roundw
                        case rel => exact ⟨t, ls2, by go_num, by omega, by omega, hrow, hh, hk⟩
                        case measure => simp [intOf] <;> omega
                      · have hR2 := Lib.hid (fun q => (hR.out (wr.drewN q)).2 ⟨l, hrow.out.drewN q, ⟨hts.out.1, hts.out.2.done (hole_end haj hlt) haj⟩, hk.out.drewN q⟩)
                        rw [decide_eq_false hlt] at hcmp
                        clear hlt
                        generalize at_ l (t + 1) = x1 at ci hcmp
                        generalize at_ l (t) = x2 at cj hcmp
                        go_wp2_with fail
                        go_quiet ((go_at_call 78; exact Calls.quiet_of_same (hcmp.out _)))
                        replace hrow := Lib.hid (hrow.out.drewN nq)
                        replace hk := Lib.hid (hk.out.drewN nq)
                        have hR3 := Lib.hid (hR2.out nq)
                        generalize wr.drewN nq = w2 at hR3 ⊢
                        clear hcmp ci cj hR2
                        go_wp2_with fail
                        go_meet
                        exact hR3.out
                    · obtain rfl : j = 0 := by omega
                      have hR2 := Lib.hid ((hR.out wr).2 ⟨l, hrow.out, ⟨hts.out.1, hts.out.2.done (.inl (by omega)) haj⟩, hk.out⟩)
                      go_wp2_with fail
                      go_meet
                      exact hR2.out
                · have hR2 := Lib.hid ((hR.out w3).2 ⟨ls, hrow.out, ⟨hh.out.1, (SortedOn.one ls a).less (by omega)⟩, hk.out⟩)
                  go_wp2_with fail
                  go_meet
                  exact hR2.out
              case rest =>
                obtain ⟨l, hrow, hts, hk⟩ := (hR.out _).1 hcut
                have hll := hts.1.len
                replace hrow := Lib.hid hrow
                replace hts := Lib.hid hts
                replace hk := Lib.hid hk
                clear hcut hh
                by_cases h2 : 2 ≤ (b : Int) - ((k : Int) + 1)
                · go_wp2_with fail
                  go_loopw [10] (fun v10 wr => ∃ (t : Nat) (l : List Nat), v10 = .int .i64 ((t : Int) + 1) ∧ k + 1 ≤ t ∧ t < b ∧ Hid (Row wr g l rest) ∧ Hid (Turned a b l0 l ∧ SortedOn l a (k + 1)) ∧ Hid (Kept1 W0 g wr)) (fun v10 _ => b - (intOf v10).toNat)
                  case atStart => exact ⟨k + 1, l, by go_num, by omega, by omega, hrow, hts, hk⟩
                  case round =>
                    clear hrow hts hk
                    obtain ⟨t, l, rfl, hkt, htb, hrow, hts, hk⟩ := hrel
                    have hll := hts.out.1.len
                    by_cases hj1 : t + 1 < b
                    · have hc1 : (t : Int) + 1 < (b : Int) := by omega
                      have hb3 : (t : Int) + 1 < (l0.length : Int) := by omega
                      have hb4 : (t : Int) < (l0.length : Int) := by omega
                      have ht0 : (0 : Int) ≤ (t : Int) := by omega
                      have ci := hrow.out.at (t + 1) (by omega)
                      have cj := hrow.out.at (t) (by omega)
                      have hcmp := Lib.hid (fun n => hle.out (at_ l (t + 1)) (at_ l (t)) (wr.drewN n))
                      by_cases hlt : at_ l (t + 1) < at_ l (t)
                      · rw [decide_eq_true hlt] at hcmp
                        clear hlt
                        generalize at_ l (t + 1) = x1 at ci hcmp
                        generalize at_ l (t) = x2 at cj hcmp
                        go_wp2_with fail
                        go_quiet ((go_at_call 78; exact Calls.quiet_of_same (hcmp.out _)))
                        replace hrow := Lib.hid (hrow.out.drewN nq)
                        replace hk := Lib.hid (hk.out.drewN nq)
                        generalize wr.drewN nq = w2 at hrow hk ⊢
                        clear hcmp ci cj
                        have ci := hrow.out.at (t + 1) (by omega)
                        have cj := hrow.out.at (t) (by omega)
                        have fi := hrow.out.free (t + 1)
                        have fj := hrow.out.free (t)
                        have hsw := Lib.hid (fun (W : World) (h : Row W g l rest) => h.swapW (t + 1) (t) (by omega) (by omega))
                        have hh := Lib.hid (show Turned a b l0 (swp l (t + 1) t) ∧ SortedOn (swp l (t + 1) t) a (k + 1) from ⟨hts.out.1.trans (Turned.swp l (t + 1) t ⟨by omega, by omega⟩ ⟨by omega, by omega⟩ (by omega)), hts.out.2.above (by omega) (by omega) (by omega) (by omega)⟩)
                        clear hts
                        generalize swp l (t + 1) (t) = ls2 at hsw hh
                        generalize at_ l (t + 1) = x1 at ci hsw
                        generalize at_ l (t) = x2 at cj hsw
                        go_wp2_with fail
                        go_region
                        replace hrow := Lib.hid (hsw.out _ hrow.out)
                        replace hk := Lib.hid (hk.out.swapW (t + 1) (t) (.int .u64 x2) (.int .u64 x1))
                        clear hsw ci cj fi fj
                        generalize ((w2.setCell ⟨g, t + 1, none⟩ (.int .u64 (x2 : Nat))).setCell ⟨g, t, none⟩ (.int .u64 (x1 : Nat))).drew = w4 at hrow hk ⊢
                        go_wp2_with fail
                        go_roundw
                        case rel => exact ⟨t + 1, ls2, by go_num, by omega, by omega, hrow, hh, hk⟩
                        case measure => simp [intOf] <;> omega
                      · rw [decide_eq_false hlt] at hcmp
                        clear hlt
                        generalize at_ l (t + 1) = x1 at ci hcmp
                        generalize at_ l (t) = x2 at cj hcmp
                        go_wp2_with fail
                        go_quiet ((go_at_call 78; exact Calls.quiet_of_same (hcmp.out _)))
                        replace hrow := Lib.hid (hrow.out.drewN nq)
                        replace hk := Lib.hid (hk.out.drewN nq)
                        generalize wr.drewN nq = w2 at hrow hk ⊢
                        clear hcmp ci cj
                        go_wp2_with fail
                        go_roundw
                        case rel => exact ⟨k, j + 1, l, rfl, by go_num, by omega, hak, by omega, hrow, hts, hk⟩
                        case measure => simp [intOf] <;> omega
                    · have hc1 : (b : Int) ≤ (t : Int) + 1 := by omega
                      go_wp2_with fail
                      go_roundw
                      case rel => exact ⟨k, j + 1, l, rfl, by go_num, by omega, hak, by omega, hrow, hts, hk⟩
                      case measure => simp [intOf] <;> omega
                · go_wp2_with fail
                  go_roundw
                  case rel => exact ⟨k, j + 1, l, rfl, by go_num, by omega, hak, by omega, hrow, hts, hk⟩
                  case measure => simp [intOf] <;> omega
          · have hh := Lib.hid (show Turned a b l0 l ∧ SortedOn l a (k + 1 + 1) from ⟨hts.out.1, hts.out.2.snoc hak hlt⟩)
            rw [decide_eq_false hlt] at hcmp
            clear hlt
            generalize at_ l (k + 1) = x1 at ci hcmp
            generalize at_ l (k) = x2 at cj hcmp
            go_wp2_with fail
            go_quiet ((go_at_call 78; exact Calls.quiet_of_same (hcmp.out _)))
            replace hrow := Lib.hid (hrow.out.drewN nq)
            replace hk := Lib.hid (hk.out.drewN nq)
            generalize wr.drewN nq = w2 at hrow hk ⊢
            clear hcmp ci cj
            go_wp2_with fail
            go_roundw
            case rel => exact ⟨k + 1, l, by go_num, by omega, by omega, hrow, hh, hk⟩
            case measure => simp [intOf] <;> omega
        · obtain rfl : b = k + 1 := by omega
          have hd : decide ((k : Int) + 1 < (k : Int) + 1) = false := by simp
          have hh := Lib.hid (show Turned a (k + 1) l0 l ∧ (true = true → SortedOn l a (k + 1)) from ⟨hts.out.1, fun _ => hts.out.2⟩)
          go_wp2_with fail
          go_quiet (fail)
          replace hrow := Lib.hid (hrow.out.drewN nq)
          replace hk := Lib.hid (hk.out.drewN nq)
          generalize wr.drewN nq = w2 at hrow hk ⊢
          go_wp2_with fail
          (try simp only [Exit.inBlock, Exit.then])
          go_ret
          exact ⟨true, l, rfl, hrow, Lib.hid ⟨hh.out.1, fun _ => hh.out.2 trivial⟩, hk⟩
    · have hj' : (5 : Int) ≤ (j : Int) := by omega
      have hh := Lib.hid (show Turned a b l0 l ∧ (false = true → SortedOn l a b) from ⟨hts.out.1, fun h => by cases h⟩)
      go_wp2_with fail
      go_ret
      exact ⟨false, l, rfl, hrow, hh, hk⟩
end Go.Proofs.Ytcnebfmlelcliaa
namespace Go.Proofs.Ytcnebfmlelcliaa
open Go.RowKit

/-! how the partitions stand -/
structure PSt (l0 l : List Nat) (a b i j : Nat) : Prop where
  turned : Turned a b l0 l
  left : PartL l a i
  right : PartR l a j b
structure ESt (l0 l : List Nat) (a b i j X : Nat) : Prop where
  turned : Turned a b l0 l
  left : EqL l a i
  right : EqR l a j b
  piv : at_ l a = X
theorem PSt.up {l0 l : List Nat} {a b i j : Nat} (h : PSt l0 l a b i j) (hi : at_ l i < at_ l a) : PSt l0 l a b (i + 1) j := ⟨h.turned, h.left.more hi, h.right⟩
theorem PSt.down {l0 l : List Nat} {a b i t : Nat} (h : PSt l0 l a b i (t + 1)) (hi : ¬ at_ l (t + 1) < at_ l a) : PSt l0 l a b i t := ⟨h.turned, h.left, h.right.more hi⟩
theorem ESt.up {l0 l : List Nat} {a b i j X : Nat} (h : ESt l0 l a b i j X) (hi : ¬ at_ l a < at_ l i) : ESt l0 l a b (i + 1) j X := ⟨h.turned, h.left.more hi, h.right, h.piv⟩
theorem ESt.down {l0 l : List Nat} {a b i t X : Nat} (h : ESt l0 l a b i (t + 1) X) (hi : at_ l a < at_ l (t + 1)) : ESt l0 l a b i t X := ⟨h.turned, h.left, h.right.more hi, h.piv⟩
theorem PSt.swap {l0 l : List Nat} {a b i t : Nat} (h : PSt l0 l a b i (t + 1)) (hai : a < i) (hit : i ≤ t + 1) (htb : t + 1 < b) (hb : b ≤ l.length) (h1 : ¬ at_ l i < at_ l a) (h2 : at_ l (t + 1) < at_ l a) : i < t + 1 ∧ PSt l0 (swp l i (t + 1)) a b (i + 1) t := by
  have hlt : i < t + 1 := Nat.lt_of_le_of_ne hit (fun e => h1 (by rw [e]; exact h2))
  obtain ⟨g1, g2⟩ := part_swap h.left h.right hai hlt htb hb h1 h2
  exact ⟨hlt, h.turned.trans (Turned.swp l i (t + 1) ⟨by omega, by omega⟩ ⟨by omega, by omega⟩ hb), g1, g2⟩
theorem ESt.swap {l0 l : List Nat} {a b i t X : Nat} (h : ESt l0 l a b i (t + 1) X) (hai : a < i) (hit : i ≤ t + 1) (htb : t + 1 < b) (hb : b ≤ l.length) (h1 : at_ l a < at_ l i) (h2 : ¬ at_ l a < at_ l (t + 1)) : i < t + 1 ∧ ESt l0 (swp l i (t + 1)) a b (i + 1) t X := by
  have hlt : i < t + 1 := Nat.lt_of_le_of_ne hit (fun e => h2 (by rw [← e]; exact h1))
  obtain ⟨g1, g2⟩ := eq_swap h.left h.right hai hlt htb hb h1 h2
  exact ⟨hlt, h.turned.trans (Turned.swp l i (t + 1) ⟨by omega, by omega⟩ ⟨by omega, by omega⟩ hb), g1, g2, by rw [swp_at l i (t + 1) a (by omega) (by omega), if_neg (by omega), if_neg (by omega)]; exact h.piv⟩
theorem PSt.start {l0 : List Nat} {a b p : Nat} (hap : a ≤ p) (hpb : p < b) (hb : b ≤ l0.length) : PSt l0 (swp l0 a p) a b (a + 1) (b - 1) :=
  ⟨Turned.swp l0 a p ⟨by omega, by omega⟩ ⟨by omega, by omega⟩ hb, fun q h1 h2 => by omega, fun q h1 h2 => by omega⟩
theorem ESt.start {l0 : List Nat} {a b p : Nat} (hap : a ≤ p) (hpb : p < b) (hb : b ≤ l0.length) : ESt l0 (swp l0 a p) a b (a + 1) (b - 1) (at_ l0 p) :=
  ⟨Turned.swp l0 a p ⟨by omega, by omega⟩ ⟨by omega, by omega⟩ hb, fun q h1 h2 => by rw [show q = a by omega]; exact Nat.le_refl _, fun q h1 h2 => by omega, by
    rw [swp_at l0 a p a (by omega) (by omega)]
    split
    · rename_i h; rw [h]
    · rw [if_pos rfl]⟩
theorem PSt.done {l0 l : List Nat} {a b i j : Nat} (h : PSt l0 l a b i j) (hij : i = j + 1) (haj : a ≤ j) (hjb : j < b) (hb : b ≤ l.length) : Turned a b l0 (swp l j a) ∧ Parted (swp l j a) a b j := by
  subst hij
  exact ⟨h.turned.trans (Turned.swp l j a ⟨haj, hjb⟩ ⟨Nat.le_refl _, by omega⟩ hb), part_done h.left h.right haj hjb hb⟩
def PartEq (W0 : World) (g : Nat) (l0 : List Nat) (rest : List Value) (a b X : Nat) (e : Ending) (W' : World) : Prop := ∃ (m : Nat) (l' : List Nat), e = .returned (.int .i64 m) ∧ a < m ∧ m ≤ b ∧ Hid (Row W' g l' rest) ∧ Hid (Turned a b l0 l' ∧ ∀ p, a ≤ p → p < m → at_ l' p ≤ X) ∧ Hid (Kept1 W0 g W')
set_option maxRecDepth 100000 in
set_option maxHeartbeats 8000000 in
theorem partEq_any (g cap : Nat) (l0 : List Nat) (rest : List Value) (a b p : Nat) (hap : a ≤ p) (hpb : p < b) (hfl : b ≤ l0.length) (hlen : l0.length ≤ 2305843009213693952) (W0 : World) (hr : Row W0 g l0 rest) :
    Calls Try.prog 79 #[.slice (some ⟨g, 0, none⟩) l0.length cap, .int .i64 a, .int .i64 b, .int .i64 p] W0 (PartEq W0 g l0 rest a b (at_ l0 p)) := by
  have hrow := Lib.hid hr
  have hk := Lib.hid (Kept1.refl W0 g)
  have hle := Lib.hid less_any
  have hb1 : (a : Int) < (l0.length : Int) := by omega
  have hb2 : (p : Int) < (l0.length : Int) := by omega
  have hst0 := Lib.hid (ESt.start hap hpb hfl)
  obtain ⟨X, hX⟩ : ∃ X, at_ l0 p = X := ⟨_, rfl⟩
  rw [hX] at hst0 ⊢
  clear hr
  obtain ⟨l, hl⟩ : ∃ l, l = l0 := ⟨_, rfl⟩
  have hst1 : Hid (ESt l0 (swp l a p) a b (a + 1) (b - 1) X) := by rw [hl]; exact hst0
  have hll : l.length = l0.length := by rw [hl]
  rw [← hl] at hrow
  clear hl hst0 hX
  go_enter Try.func79, Try.ntmps79
  go_wp2_with fail
  by_cases heq : a = p
  · obtain rfl : a = p := heq
    have ci := hrow.out.at (a) (by omega)
    have fi := hrow.out.free (a)
    have hsw := Lib.hid (fun (W : World) (h : Row W g l rest) => h.swapW (a) (a) (by omega) (by omega))
    have hh := hst1
    clear hst1
    generalize swp l (a) (a) = ls1 at hsw hh
    generalize at_ l (a) = x1 at ci hsw
    go_wp2_with fail
    go_region
    replace hrow := Lib.hid (hsw.out _ hrow.out)
    replace hk := Lib.hid (hk.out.swapW (a) (a) (.int .u64 x1) (.int .u64 x1))
    clear hsw ci fi
    generalize ((W0.setCell ⟨g, a, none⟩ (.int .u64 (x1 : Nat))).setCell ⟨g, a, none⟩ (.int .u64 (x1 : Nat))).drew = w1 at hrow hk ⊢
    go_wp2_with fail
    go_loopw [9, 10] (fun v9 v10 wr => ∃ (i j : Nat) (l : List Nat), v9 = .int .i64 i ∧ v10 = .int .i64 j ∧ a < i ∧ i ≤ j + 1 ∧ j < b ∧ a ≤ j ∧ Hid (Row wr g l rest) ∧ Hid (ESt l0 l a b i j X) ∧ Hid (Kept1 W0 g wr)) (fun v9 v10 _ => (intOf v10 + 1 - intOf v9).toNat)
    case atStart => exact ⟨a + 1, b - 1, ls1, by go_num, by go_num, by omega, by omega, by omega, by omega, hrow, hh, hk⟩
    case round =>
      clear hrow hh hk
      obtain ⟨i0, j0, l, rfl, rfl, hai, hij, hjb, haj, hrow, hst, hk⟩ := hrel
      go_wp2_with fail
      go_loopw [9] (fun vi wr => ∃ (i : Nat), vi = .int .i64 i ∧ i0 ≤ i ∧ a < i ∧ i ≤ j0 + 1 ∧ Hid (Row wr g l rest) ∧ Hid (ESt l0 l a b i j0 X) ∧ Hid (Kept1 W0 g wr)) (fun vi _ => b - (intOf vi).toNat)
      case atStart => exact ⟨i0, by first | rfl | go_num, Nat.le_refl _, by omega, by omega, hrow, hst, hk⟩
      case round =>
        clear hrow hst hk hai hij
        obtain ⟨i, rfl, hii, hai, hij, hrow, hst, hk⟩ := hrel
        have hll := hst.out.turned.len
        by_cases hsm : i ≤ j0
        · have hd : decide ((i : Int) ≤ (j0 : Int)) = true := by simp; omega
          have hb1 : (i : Int) < (l0.length : Int) := by omega
          have hb2 : (a : Int) < (l0.length : Int) := by omega
          have ci := hrow.out.at (a) (by omega)
          have cj := hrow.out.at (i) (by omega)
          have hcmp := Lib.hid (fun n => hle.out (at_ l (a)) (at_ l (i)) (wr.drewN n))
          by_cases hlt : at_ l (a) < at_ l (i)
          · have h1 := Lib.hid hlt
            rw [decide_eq_true hlt] at hcmp
            clear hlt
            generalize at_ l (a) = x1 at ci hcmp
            generalize at_ l (i) = x2 at cj hcmp
            go_wp2_with fail
            go_quiet ((go_at_call 78; exact Calls.quiet_of_same (hcmp.out _)))
            replace hrow := Lib.hid (hrow.out.drewN nq)
            replace hk := Lib.hid (hk.out.drewN nq)
            generalize wr.drewN nq = w2 at hrow hk ⊢
            clear hcmp ci cj
            go_wp2_with fail
            go_loopw [10] (fun vj wr => ∃ (j : Nat), vj = .int .i64 j ∧ j ≤ j0 ∧ i ≤ j + 1 ∧ j < b ∧ a ≤ j ∧ Hid (Row wr g l rest) ∧ Hid (ESt l0 l a b i j X) ∧ Hid (Kept1 W0 g wr)) (fun vj _ => (intOf vj).toNat)
            case atStart => exact ⟨j0, by first | rfl | go_num, Nat.le_refl _, by omega, by omega, by omega, hrow, hst, hk⟩
            case round =>
              clear hrow hst hk hij hjb hsm
              obtain ⟨j, rfl, hjj, hij, hjb, haj, hrow, hst, hk⟩ := hrel
              have hll := hst.out.turned.len
              by_cases hsm : i ≤ j
              · obtain ⟨t, rfl⟩ : ∃ t, j = t + 1 := ⟨j - 1, by omega⟩
                have hd : decide ((i : Int) ≤ (t : Int) + 1) = true := by simp; omega
                have hb1 : (t : Int) + 1 < (l0.length : Int) := by omega
                have hb2 : (a : Int) < (l0.length : Int) := by omega
                have ci := hrow.out.at (a) (by omega)
                have cj := hrow.out.at (t + 1) (by omega)
                have hcmp := Lib.hid (fun n => hle.out (at_ l (a)) (at_ l (t + 1)) (wr.drewN n))
                by_cases hlt : at_ l (a) < at_ l (t + 1)
                · have hst2 := Lib.hid (hst.out.down hlt)
                  clear hst
                  rw [decide_eq_true hlt] at hcmp
                  clear hlt
                  generalize at_ l (a) = x1 at ci hcmp
                  generalize at_ l (t + 1) = x2 at cj hcmp
                  go_wp2_with fail
                  go_quiet ((go_at_call 78; exact Calls.quiet_of_same (hcmp.out _)))
                  replace hrow := Lib.hid (hrow.out.drewN nq)
                  replace hk := Lib.hid (hk.out.drewN nq)
                  generalize wr.drewN nq = w3 at hrow hk ⊢
                  clear hcmp ci cj
                  go_wp2_with fail
                  go_roundw
                  case rel => exact ⟨t, by go_num, by omega, by omega, by omega, by omega, hrow, hst2, hk⟩
                  case measure => simp [intOf] <;> omega
                · have h2 := Lib.hid hlt
                  rw [decide_eq_false hlt] at hcmp
                  clear hlt
                  generalize at_ l (a) = x1 at ci hcmp
                  generalize at_ l (t + 1) = x2 at cj hcmp
                  go_wp2_with fail
                  go_quiet ((go_at_call 78; exact Calls.quiet_of_same (hcmp.out _)))
                  replace hrow := Lib.hid (hrow.out.drewN nq)
                  replace hk := Lib.hid (hk.out.drewN nq)
                  generalize wr.drewN nq = w3 at hrow hk ⊢
                  clear hcmp ci cj
                  have ci := hrow.out.at (i) (by omega)
                  have cj := hrow.out.at (t + 1) (by omega)
                  have fi := hrow.out.free (i)
                  have fj := hrow.out.free (t + 1)
                  have hsw := Lib.hid (fun (W : World) (h : Row W g l rest) => h.swapW (i) (t + 1) (by omega) (by omega))
                  have hh := Lib.hid (hst.out.swap hai hsm hjb (by omega) h1.out h2.out).2
                  have hlt3 := (hst.out.swap hai hsm hjb (by omega) h1.out h2.out).1
                  have hne : i ≠ t + 1 := by omega
                  clear h1 h2 hst
                  generalize swp l (i) (t + 1) = ls at hsw hh
                  generalize at_ l (i) = x1 at ci hsw
                  generalize at_ l (t + 1) = x2 at cj hsw
                  go_wp2_with fail
                  go_region
                  replace hrow := Lib.hid (hsw.out _ hrow.out)
                  replace hk := Lib.hid (hk.out.swapW (i) (t + 1) (.int .u64 x2) (.int .u64 x1))
                  clear hsw ci cj fi fj
                  generalize ((w3.setCell ⟨g, i, none⟩ (.int .u64 (x2 : Nat))).setCell ⟨g, t + 1, none⟩ (.int .u64 (x1 : Nat))).drew = w4 at hrow hk ⊢
                  go_wp2_with fail
                  go_roundw
                  case rel => exact ⟨i + 1, t, ls, by go_num, by go_num, by omega, by omega, by omega, by omega, hrow, hh, hk⟩
                  case measure => simp [intOf] <;> omega
              · have hd : decide ((i : Int) ≤ (j : Int)) = false := by simp; omega
                go_wp2_with fail
                go_quiet (fail)
                replace hrow := Lib.hid (hrow.out.drewN nq)
                replace hk := Lib.hid (hk.out.drewN nq)
                generalize wr.drewN nq = w3 at hrow hk ⊢
                have hh := Lib.hid (show Turned a b l0 l ∧ ∀ p, a ≤ p → p < i → at_ l p ≤ X from ⟨hst.out.turned, fun p h1 h2 => by rw [← hst.out.piv]; exact hst.out.left p h1 h2⟩)
                clear hst
                go_wp2_with fail
                go_ret
                exact ⟨i, l, rfl, by omega, by omega, hrow, hh, hk⟩
          · have hst2 := Lib.hid (hst.out.up hlt)
            clear hst
            rw [decide_eq_false hlt] at hcmp
            clear hlt
            generalize at_ l (a) = x1 at ci hcmp
            generalize at_ l (i) = x2 at cj hcmp
            go_wp2_with fail
            go_quiet ((go_at_call 78; exact Calls.quiet_of_same (hcmp.out _)))
            replace hrow := Lib.hid (hrow.out.drewN nq)
            replace hk := Lib.hid (hk.out.drewN nq)
            generalize wr.drewN nq = w2 at hrow hk ⊢
            clear hcmp ci cj
            go_wp2_with fail
            go_roundw
            case rel => exact ⟨i + 1, by go_num, by omega, by omega, by omega, hrow, hst2, hk⟩
            case measure => simp [intOf] <;> omega
        · have hd : decide ((i : Int) ≤ (j0 : Int)) = false := by simp; omega
          go_wp2_with fail
          go_quiet (fail)
          replace hrow := Lib.hid (hrow.out.drewN nq)
          replace hk := Lib.hid (hk.out.drewN nq)
          generalize wr.drewN nq = w2 at hrow hk ⊢
          go_wp2_with fail
          go_loopw [10] (fun vj wr => vj = .int .i64 j0 ∧ Hid (Row wr g l rest) ∧ Hid (Kept1 W0 g wr)) (fun _ _ => 0)
          case atStart => exact ⟨by first | rfl | go_num, hrow, hk⟩
          case round =>
            clear hrow hk
            obtain ⟨rfl, hrow, hk⟩ := hrel
            obtain ⟨j, rfl⟩ : ∃ j, j = j0 := ⟨_, rfl⟩
            have haj : a ≤ j := by omega
            go_wp2_with fail
            go_quiet (fail)
            replace hrow := Lib.hid (hrow.out.drewN nq)
            replace hk := Lib.hid (hk.out.drewN nq)
            generalize wr.drewN nq = w3 at hrow hk ⊢
            have hh := Lib.hid (show Turned a b l0 l ∧ ∀ p, a ≤ p → p < i → at_ l p ≤ X from ⟨hst.out.turned, fun p h1 h2 => by rw [← hst.out.piv]; exact hst.out.left p h1 h2⟩)
            clear hst
            go_wp2_with fail
            go_ret
            exact ⟨i, l, rfl, by omega, by omega, hrow, hh, hk⟩
  · have ci := hrow.out.at (a) (by omega)
    have cj := hrow.out.at (p) (by omega)
    have fi := hrow.out.free (a)
    have fj := hrow.out.free (p)
    have hsw := Lib.hid (fun (W : World) (h : Row W g l rest) => h.swapW (a) (p) (by omega) (by omega))
    have hh := hst1
    clear hst1
    generalize swp l (a) (p) = ls1 at hsw hh
    generalize at_ l (a) = x1 at ci hsw
    generalize at_ l (p) = x2 at cj hsw
    go_wp2_with fail
    go_region
    replace hrow := Lib.hid (hsw.out _ hrow.out)
    replace hk := Lib.hid (hk.out.swapW (a) (p) (.int .u64 x2) (.int .u64 x1))
    clear hsw ci cj fi fj
    generalize ((W0.setCell ⟨g, a, none⟩ (.int .u64 (x2 : Nat))).setCell ⟨g, p, none⟩ (.int .u64 (x1 : Nat))).drew = w1 at hrow hk ⊢
    go_wp2_with fail
    go_loopw [9, 10] (fun v9 v10 wr => ∃ (i j : Nat) (l : List Nat), v9 = .int .i64 i ∧ v10 = .int .i64 j ∧ a < i ∧ i ≤ j + 1 ∧ j < b ∧ a ≤ j ∧ Hid (Row wr g l rest) ∧ Hid (ESt l0 l a b i j X) ∧ Hid (Kept1 W0 g wr)) (fun v9 v10 _ => (intOf v10 + 1 - intOf v9).toNat)
    case atStart => exact ⟨a + 1, b - 1, ls1, by go_num, by go_num, by omega, by omega, by omega, by omega, hrow, hh, hk⟩
    case round =>
      clear hrow hh hk
      obtain ⟨i0, j0, l, rfl, rfl, hai, hij, hjb, haj, hrow, hst, hk⟩ := hrel
      go_wp2_with fail
      go_loopw [9] (fun vi wr => ∃ (i : Nat), vi = .int .i64 i ∧ i0 ≤ i ∧ a < i ∧ i ≤ j0 + 1 ∧ Hid (Row wr g l rest) ∧ Hid (ESt l0 l a b i j0 X) ∧ Hid (Kept1 W0 g wr)) (fun vi _ => b - (intOf vi).toNat)
      case atStart => exact ⟨i0, by first | rfl | go_num, Nat.le_refl _, by omega, by omega, hrow, hst, hk⟩
      case round =>
        clear hrow hst hk hai hij
        obtain ⟨i, rfl, hii, hai, hij, hrow, hst, hk⟩ := hrel
        have hll := hst.out.turned.len
        by_cases hsm : i ≤ j0
        · have hd : decide ((i : Int) ≤ (j0 : Int)) = true := by simp; omega
          have hb1 : (i : Int) < (l0.length : Int) := by omega
          have hb2 : (a : Int) < (l0.length : Int) := by omega
          have ci := hrow.out.at (a) (by omega)
          have cj := hrow.out.at (i) (by omega)
          have hcmp := Lib.hid (fun n => hle.out (at_ l (a)) (at_ l (i)) (wr.drewN n))
          by_cases hlt : at_ l (a) < at_ l (i)
          · have h1 := Lib.hid hlt
            rw [decide_eq_true hlt] at hcmp
            clear hlt
            generalize at_ l (a) = x1 at ci hcmp
            generalize at_ l (i) = x2 at cj hcmp
            go_wp2_with fail
            go_quiet ((go_at_call 78; exact Calls.quiet_of_same (hcmp.out _)))
            replace hrow := Lib.hid (hrow.out.drewN nq)
            replace hk := Lib.hid (hk.out.drewN nq)
            generalize wr.drewN nq = w2 at hrow hk ⊢
            clear hcmp ci cj
            go_wp2_with fail
            go_loopw [10] (fun vj wr => ∃ (j : Nat), vj = .int .i64 j ∧ j ≤ j0 ∧ i ≤ j + 1 ∧ j < b ∧ a ≤ j ∧ Hid (Row wr g l rest) ∧ Hid (ESt l0 l a b i j X) ∧ Hid (Kept1 W0 g wr)) (fun vj _ => (intOf vj).toNat)
            case atStart => exact ⟨j0, by first | rfl | go_num, Nat.le_refl _, by omega, by omega, by omega, hrow, hst, hk⟩
            case round =>
              clear hrow hst hk hij hjb hsm
              obtain ⟨j, rfl, hjj, hij, hjb, haj, hrow, hst, hk⟩ := hrel
              have hll := hst.out.turned.len
              by_cases hsm : i ≤ j
              · obtain ⟨t, rfl⟩ : ∃ t, j = t + 1 := ⟨j - 1, by omega⟩
                have hd : decide ((i : Int) ≤ (t : Int) + 1) = true := by simp; omega
                have hb1 : (t : Int) + 1 < (l0.length : Int) := by omega
                have hb2 : (a : Int) < (l0.length : Int) := by omega
                have ci := hrow.out.at (a) (by omega)
                have cj := hrow.out.at (t + 1) (by omega)
                have hcmp := Lib.hid (fun n => hle.out (at_ l (a)) (at_ l (t + 1)) (wr.drewN n))
                by_cases hlt : at_ l (a) < at_ l (t + 1)
                · have hst2 := Lib.hid (hst.out.down hlt)
                  clear hst
                  rw [decide_eq_true hlt] at hcmp
                  clear hlt
                  generalize at_ l (a) = x1 at ci hcmp
                  generalize at_ l (t + 1) = x2 at cj hcmp
                  go_wp2_with fail
                  go_quiet ((go_at_call 78; exact Calls.quiet_of_same (hcmp.out _)))
                  replace hrow := Lib.hid (hrow.out.drewN nq)
                  replace hk := Lib.hid (hk.out.drewN nq)
                  generalize wr.drewN nq = w3 at hrow hk ⊢
                  clear hcmp ci cj
                  go_wp2_with fail
                  go_roundw
                  case rel => exact ⟨t, by go_num, by omega, by omega, by omega, by omega, hrow, hst2, hk⟩
                  case measure => simp [intOf] <;> omega
                · have h2 := Lib.hid hlt
                  rw [decide_eq_false hlt] at hcmp
                  clear hlt
                  generalize at_ l (a) = x1 at ci hcmp
                  generalize at_ l (t + 1) = x2 at cj hcmp
                  go_wp2_with fail
                  go_quiet ((go_at_call 78; exact Calls.quiet_of_same (hcmp.out _)))
                  replace hrow := Lib.hid (hrow.out.drewN nq)
                  replace hk := Lib.hid (hk.out.drewN nq)
                  generalize wr.drewN nq = w3 at hrow hk ⊢
                  clear hcmp ci cj
                  have ci := hrow.out.at (i) (by omega)
                  have cj := hrow.out.at (t + 1) (by omega)
                  have fi := hrow.out.free (i)
                  have fj := hrow.out.free (t + 1)
                  have hsw := Lib.hid (fun (W : World) (h : Row W g l rest) => h.swapW (i) (t + 1) (by omega) (by omega))
                  have hh := Lib.hid (hst.out.swap hai hsm hjb (by omega) h1.out h2.out).2
                  have hlt3 := (hst.out.swap hai hsm hjb (by omega) h1.out h2.out).1
                  have hne : i ≠ t + 1 := by omega
                  clear h1 h2 hst
                  generalize swp l (i) (t + 1) = ls at hsw hh
                  generalize at_ l (i) = x1 at ci hsw
                  generalize at_ l (t + 1) = x2 at cj hsw
                  go_wp2_with fail
                  go_region
                  replace hrow := Lib.hid (hsw.out _ hrow.out)
                  replace hk := Lib.hid (hk.out.swapW (i) (t + 1) (.int .u64 x2) (.int .u64 x1))
                  clear hsw ci cj fi fj
                  generalize ((w3.setCell ⟨g, i, none⟩ (.int .u64 (x2 : Nat))).setCell ⟨g, t + 1, none⟩ (.int .u64 (x1 : Nat))).drew = w4 at hrow hk ⊢
                  go_wp2_with fail
                  go_roundw
                  case rel => exact ⟨i + 1, t, ls, by go_num, by go_num, by omega, by omega, by omega, by omega, hrow, hh, hk⟩
                  case measure => simp [intOf] <;> omega
              · have hd : decide ((i : Int) ≤ (j : Int)) = false := by simp; omega
                go_wp2_with fail
                go_quiet (fail)
                replace hrow := Lib.hid (hrow.out.drewN nq)
                replace hk := Lib.hid (hk.out.drewN nq)
                generalize wr.drewN nq = w3 at hrow hk ⊢
                have hh := Lib.hid (show Turned a b l0 l ∧ ∀ p, a ≤ p → p < i → at_ l p ≤ X from ⟨hst.out.turned, fun p h1 h2 => by rw [← hst.out.piv]; exact hst.out.left p h1 h2⟩)
                clear hst
                go_wp2_with fail
                go_ret
                exact ⟨i, l, rfl, by omega, by omega, hrow, hh, hk⟩
          · have hst2 := Lib.hid (hst.out.up hlt)
            clear hst
            rw [decide_eq_false hlt] at hcmp
            clear hlt
            generalize at_ l (a) = x1 at ci hcmp
            generalize at_ l (i) = x2 at cj hcmp
            go_wp2_with fail
            go_quiet ((go_at_call 78; exact Calls.quiet_of_same (hcmp.out _)))
            replace hrow := Lib.hid (hrow.out.drewN nq)
            replace hk := Lib.hid (hk.out.drewN nq)
            generalize wr.drewN nq = w2 at hrow hk ⊢
            clear hcmp ci cj
            go_wp2_with fail
            go_roundw
            case rel => exact ⟨i + 1, by go_num, by omega, by omega, by omega, hrow, hst2, hk⟩
            case measure => simp [intOf] <;> omega
        · have hd : decide ((i : Int) ≤ (j0 : Int)) = false := by simp; omega
          go_wp2_with fail
          go_quiet (fail)
          replace hrow := Lib.hid (hrow.out.drewN nq)
          replace hk := Lib.hid (hk.out.drewN nq)
          generalize wr.drewN nq = w2 at hrow hk ⊢
          go_wp2_with fail
          go_loopw [10] (fun vj wr => vj = .int .i64 j0 ∧ Hid (Row wr g l rest) ∧ Hid (Kept1 W0 g wr)) (fun _ _ => 0)
          case atStart => exact ⟨by first | rfl | go_num, hrow, hk⟩
          case round =>
            clear hrow hk
            obtain ⟨rfl, hrow, hk⟩ := hrel
            obtain ⟨j, rfl⟩ : ∃ j, j = j0 := ⟨_, rfl⟩
            have haj : a ≤ j := by omega
            go_wp2_with fail
            go_quiet (fail)
            replace hrow := Lib.hid (hrow.out.drewN nq)
            replace hk := Lib.hid (hk.out.drewN nq)
            generalize wr.drewN nq = w3 at hrow hk ⊢
            have hh := Lib.hid (show Turned a b l0 l ∧ ∀ p, a ≤ p → p < i → at_ l p ≤ X from ⟨hst.out.turned, fun p h1 h2 => by rw [← hst.out.piv]; exact hst.out.left p h1 h2⟩)
            clear hst
            go_wp2_with fail
            go_ret
            exact ⟨i, l, rfl, by omega, by omega, hrow, hh, hk⟩
end Go.Proofs.Ytcnebfmlelcliaa
