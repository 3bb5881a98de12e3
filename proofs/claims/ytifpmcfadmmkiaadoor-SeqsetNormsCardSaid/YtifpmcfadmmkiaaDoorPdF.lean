/- breakPatterns: walked. -/
import Derived.Test.YtifpmcfadmmkiaaDoorPdE
import Derived.Test.YtifpmcfadmmkiaaDoorLayS
namespace Go.Proofs.YtifpmcfadmmkiaaDoor
open Go.RowKit Go.Sort Go.Lib

theorem Kept1.setNew {W0 W : World} {g X j : Nat} {v : Value} (h : Go.Proofs.YtifpmcfadmmkiaaDoor.Kept1 W0 g W) (hX : W0.heap.size ≤ X) : Go.Proofs.YtifpmcfadmmkiaaDoor.Kept1 W0 g (W.setCell ⟨X, j, none⟩ v) :=
  ⟨h.1, h.2.1, h.2.2.1, by have := h.2.2.2.1; simpa using this, fun k hk h1 => by
    rw [heap_setCell_other W ⟨X, j, none⟩ k v (by show k ≠ X; omega)]
    exact h.2.2.2.2 k hk h1⟩
theorem Kept1.alloc {W0 W : World} {g : Nat} (h : Go.Proofs.YtifpmcfadmmkiaaDoor.Kept1 W0 g W) (o : Obj) : Go.Proofs.YtifpmcfadmmkiaaDoor.Kept1 W0 g (W.alloc o) :=
  ⟨h.1, h.2.1, h.2.2.1, by have := h.2.2.2.1; simp; omega, fun k hk h1 => by
    rw [heap_alloc_old _ _ (Nat.lt_of_lt_of_le hk h.2.2.2.1)]
    exact h.2.2.2.2 k hk h1⟩
theorem Row.setOther {W : World} {g X j : Nat} {l : List Nat} {rest : List Value} {v : Value} (h : Row W g l rest) (hX : g ≠ X) : Row (W.setCell ⟨X, j, none⟩ v) g l rest := by
  unfold Row
  rw [heap_setCell_other W ⟨X, j, none⟩ g v hX]
  exact h
theorem Row.alloc {W : World} {g : Nat} {l : List Nat} {rest : List Value} (h : Row W g l rest) (o : Obj) : Row (W.alloc o) g l rest := by
  unfold Row
  rw [heap_alloc_old _ _ (Array.getElem?_eq_some_iff.1 (show W.heap[g]? = _ from h)).1]
  exact h
theorem Row.lt {W : World} {g : Nat} {l : List Nat} {rest : List Value} (h : Row W g l rest) : g < W.heap.size := (Array.getElem?_eq_some_iff.1 (show W.heap[g]? = _ from h)).1
/-- a number in a block of its own -/
def BoxU (W : World) (X : Nat) (R : Nat) : Prop := W.cell? ⟨X, 0, none⟩ = some (.int .u64 (R : Nat)) ∧ W.frozen? ⟨X, 0, none⟩ = false ∧ R < 18446744073709551616
theorem BoxU.swapW {W : World} {X R g : Nat} (h : BoxU W X R) (hX : X ≠ g) (i j : Nat) (u v : Value) : BoxU (((W.setCell ⟨g, i, none⟩ u).setCell ⟨g, j, none⟩ v).drew) X R := by
  refine ⟨?_, by simpa using h.2.1, h.2.2⟩
  show ((W.setCell ⟨g, i, none⟩ u).setCell ⟨g, j, none⟩ v).cell? ⟨X, 0, none⟩ = _
  rw [World.cell?_setCell_other _ _ _ _ (fun e => hX (by injection e with e1 _; exact e1.symm)), World.cell?_setCell_other _ _ _ _ (fun e => hX (by injection e with e1 _; exact e1.symm))]
  exact h.1
set_option maxRecDepth 100000 in
set_option maxHeartbeats 8000000 in
theorem break_any (g cap : Nat) (l0 : List Nat) (rest : List Value) (a n : Nat) (hn : 8 ≤ n) (hfl : a + n ≤ l0.length) (hlen : l0.length ≤ 2305843009213693952) (W0 : World) (hr : Row W0 g l0 rest) :
    Calls Tryd.prog 61 #[.slice (some ⟨g, 0, none⟩) l0.length cap, .int .i64 a, .int .i64 ((a : Int) + (n : Int))] W0 fun e W' => e = .returned (.tuple #[]) ∧ ∃ l', Hid (Row W' g l' rest) ∧ Hid (Go.Proofs.YtifpmcfadmmkiaaDoor.Turned a (a + n) l0 l') ∧ Hid (Go.Proofs.YtifpmcfadmmkiaaDoor.Kept1 W0 g W') := by
  have hs1 : (a : Int) + (n : Int) - (a : Int) = (n : Int) := by omega
  have h8 : (8 : Int) ≤ (n : Int) := by omega
  obtain ⟨M, hM⟩ : ∃ M : Nat, M = 1 <<< bitsLen n := ⟨_, rfl⟩
  have hM1 : 1 ≤ M := by rw [hM, Nat.one_shiftLeft]; exact Nat.two_pow_pos _
  have hM2 : M ≤ 2 * n := by rw [hM, Nat.one_shiftLeft]; exact two_pow_bitsLen_le (by omega)
  have hNP : Hid (∀ w, Calls Tryd.prog 84 #[.int .i64 (n : Int)] w fun e w' => e = .returned (.int .u64 (M : Int)) ∧ w' = w) := Lib.hid (by rw [hM]; exact fun w => AnyF.nextPowerOfTwo Tryd.nptL n (by omega) w)
  have hNext : Hid (∀ (X R : Nat) (w : World), BoxU w X R → Calls Tryd.prog 85 #[.pointer (some ⟨X, 0, none⟩)] w fun e w' => e = .returned (.int .u64 (xorNextN R : Nat)) ∧ w' = (w.setCell ⟨X, 0, none⟩ (.int .u64 (xorNextN R : Nat))).drewN 3) := Lib.hid (fun X R w h => AnyF.xorshift_Next Tryd.xorL X 0 R h.2.2 w h.1 h.2.1)
  clear hM
  have hgl := hr.lt
  have hrow := Lib.hid (hr.alloc (.cells #[.int .u64 n] 108))
  have hk := Lib.hid ((Kept1.refl W0 g).alloc (.cells #[.int .u64 n] 108))
  have hbox : Hid (BoxU (W0.alloc (.cells #[.int .u64 n] 108)) W0.heap.size n) := Lib.hid ⟨by simp, by simp, by omega⟩
  have hwn : IntKind.u64.wrap (n : Int) = n := by simp [IntKind.wrap, IntKind.bits, IntKind.signed]; omega
  clear hr
  go_enter Tryd.func61, Tryd.ntmps61
  go_wp2_with fail
  refine (hNP.out _).mono ?_
  rintro e w1 ⟨rfl, rfl⟩
  have hXg : W0.heap.size ≠ g := by omega
  obtain ⟨X, hX⟩ : ∃ X, X = W0.heap.size := ⟨_, rfl⟩
  rw [← hX] at hbox hXg ⊢
  replace hX := Lib.hid hX
  generalize W0.alloc (.cells #[.int .u64 n] 108) = w1 at hrow hk hbox ⊢
  clear hNP hgl
  go_wp2_with fail
  go_loopw [9] (fun v9 wr => ∃ (i R : Nat) (l : List Nat), v9 = .int .i64 i ∧ a + n / 4 * 2 - 1 ≤ i ∧ i ≤ a + n / 4 * 2 + 2 ∧ Hid (BoxU wr X R) ∧ Hid (Row wr g l rest) ∧ Hid (Go.Proofs.YtifpmcfadmmkiaaDoor.Turned a (a + n) l0 l) ∧ Hid (Go.Proofs.YtifpmcfadmmkiaaDoor.Kept1 W0 g wr)) (fun v9 _ => a + n - (intOf v9).toNat)
  case atStart => exact ⟨a + n / 4 * 2 - 1, n, l0, by congr 1; omega, Nat.le_refl _, by omega, hbox, hrow, Lib.hid (Turned.refl _ _ _), hk⟩
  case round =>
    clear hbox hrow hk
    obtain ⟨i, R, l, rfl, hi1, hi2, hbox, hrow, hts, hk⟩ := hrel
    have hll := hts.out.len
    by_cases hi3 : i ≤ a + n / 4 * 2 + 1
    · have hi3' : (i : Int) ≤ (a : Int) + (n : Int) / 4 * 2 + 1 := by omega
      have hb1 : (i : Int) < (l0.length : Int) := by omega
      obtain ⟨R', hR'⟩ : ∃ R' : Nat, R' = xorNextN R := ⟨_, rfl⟩
      have lR' : R' < 18446744073709551616 := by rw [hR']; exact xorNextN_lt R hbox.out.2.2
      obtain ⟨O, hO⟩ : ∃ O : Nat, O = R' &&& (M - 1) := ⟨_, rfl⟩
      have lO : O ≤ M - 1 := by rw [hO]; exact Nat.and_le_right
      have eAnd : bits .and .u64 (R' : Int) ((M : Int) - 1) = (O : Int) := by
        rw [show ((M : Int) - 1) = ((M - 1 : Nat) : Int) by omega, bits_and_u64_nat _ _ lR' (by omega), hO]
      have hc := hNext.out X R wr hbox.out
      rw [← hR'] at hc
      replace hc := Lib.hid hc
      have hbox2 : Hid (BoxU ((wr.setCell ⟨X, 0, none⟩ (.int .u64 (R' : Nat))).drewN 3) X R') := Lib.hid ⟨by rw [World.cell?_drewN]; exact World.cell?_setCell_same _ _ _ hbox.out.1, by rw [World.frozen?_drewN]; simpa using hbox.out.2.1, lR'⟩
      have hrow2 := Lib.hid ((hrow.out.setOther (j := 0) (v := .int .u64 (R' : Nat)) (Ne.symm hXg)).drewN 3)
      have hk2 := Lib.hid ((hk.out.setNew (j := 0) (v := .int .u64 (R' : Nat)) (Nat.le_of_eq hX.out.symm)).drewN 3)
      clear hR' hO hbox hrow hk
      by_cases hnO : n ≤ O
      · have hnO' : (n : Int) ≤ (O : Int) := by omega
        obtain ⟨p, hp⟩ : ∃ p, p = a + (O - n) := ⟨_, rfl⟩
        have ec : ((a : Int) + ((O : Int) - (n : Int))).toNat = p := by omega
        have pc : (0 : Int) ≤ (a : Int) + ((O : Int) - (n : Int)) := by omega
        have bc : (a : Int) + ((O : Int) - (n : Int)) < (l0.length : Int) := by omega
        have rc : IntKind.i64.wrap ((a : Int) + ((O : Int) - (n : Int))) = (a : Int) + ((O : Int) - (n : Int)) := by rw [IntKind.wrap_i64]; omega
        have hap : a ≤ p := by omega
        have hpn : p < a + n := by omega
        clear hp
        go_wp2_with fail
        refine hc.out.mono ?_
        rintro e w2 ⟨rfl, hw2⟩
        have hbox := hbox2
        have hrow := hrow2
        have hk := hk2
        clear hbox2 hrow2 hk2 hc
        rw [← hw2] at hbox hrow hk
        clear hw2
        by_cases heq : i = p
        · obtain rfl : i = p := heq
          have ci := hrow.out.at (i) (by omega)
          have fi := hrow.out.free (i)
          have hsw := Lib.hid (fun (W : World) (h : Row W g l rest) => h.swapW (i) (i) (by omega) (by omega))
          have hh := Lib.hid (hts.out.trans (Turned.swp l (i) (i) ⟨by omega, by omega⟩ ⟨by omega, by omega⟩ (by omega)))
          clear hts
          generalize swp l (i) (i) = ls at hsw hh
          generalize at_ l (i) = x1 at ci hsw
          go_wp2_with fail
          go_region
          replace hrow := Lib.hid (hsw.out _ hrow.out)
          replace hbox := Lib.hid (hbox.out.swapW hXg (i) (i) (.int .u64 x1) (.int .u64 x1))
          replace hk := Lib.hid (hk.out.swapW (i) (i) (.int .u64 x1) (.int .u64 x1))
          clear hsw ci fi
          generalize ((w2.setCell ⟨g, i, none⟩ (.int .u64 (x1 : Nat))).setCell ⟨g, i, none⟩ (.int .u64 (x1 : Nat))).drew = w3 at hrow hk hbox ⊢
          go_wp2_with fail
          go_roundw
          case rel => exact ⟨i + 1, R', ls, by go_num, by omega, by omega, hbox, hrow, hh, hk⟩
          case measure => simp [intOf] <;> omega
        · have ci := hrow.out.at (i) (by omega)
          have cj := hrow.out.at (p) (by omega)
          have fi := hrow.out.free (i)
          have fj := hrow.out.free (p)
          have hsw := Lib.hid (fun (W : World) (h : Row W g l rest) => h.swapW (i) (p) (by omega) (by omega))
          have hh := Lib.hid (hts.out.trans (Turned.swp l (i) (p) ⟨by omega, by omega⟩ ⟨by omega, by omega⟩ (by omega)))
          clear hts
          generalize swp l (i) (p) = ls at hsw hh
          generalize at_ l (i) = x1 at ci hsw
          generalize at_ l (p) = x2 at cj hsw
          go_wp2_with fail
          go_region
          replace hrow := Lib.hid (hsw.out _ hrow.out)
          replace hbox := Lib.hid (hbox.out.swapW hXg (i) (p) (.int .u64 x2) (.int .u64 x1))
          replace hk := Lib.hid (hk.out.swapW (i) (p) (.int .u64 x2) (.int .u64 x1))
          clear hsw ci cj fi fj
          generalize ((w2.setCell ⟨g, i, none⟩ (.int .u64 (x2 : Nat))).setCell ⟨g, p, none⟩ (.int .u64 (x1 : Nat))).drew = w3 at hrow hk hbox ⊢
          go_wp2_with fail
          go_roundw
          case rel => exact ⟨i + 1, R', ls, by go_num, by omega, by omega, hbox, hrow, hh, hk⟩
          case measure => simp [intOf] <;> omega
      · have hnO' : (O : Int) < (n : Int) := by omega
        obtain ⟨p, hp⟩ : ∃ p, p = a + O := ⟨_, rfl⟩
        have ec : ((a : Int) + (O : Int)).toNat = p := by omega
        have ec2 : a + O = p := hp.symm
        have pc : (0 : Int) ≤ (a : Int) + (O : Int) := by omega
        have bc : (a : Int) + (O : Int) < (l0.length : Int) := by omega
        have rc : IntKind.i64.wrap ((a : Int) + (O : Int)) = (a : Int) + (O : Int) := by rw [IntKind.wrap_i64]; omega
        have hap : a ≤ p := by omega
        have hpn : p < a + n := by omega
        clear hp
        go_wp2_with fail
        refine hc.out.mono ?_
        rintro e w2 ⟨rfl, hw2⟩
        have hbox := hbox2
        have hrow := hrow2
        have hk := hk2
        clear hbox2 hrow2 hk2 hc
        rw [← hw2] at hbox hrow hk
        clear hw2
        by_cases heq : i = p
        · obtain rfl : i = p := heq
          have ci := hrow.out.at (i) (by omega)
          have fi := hrow.out.free (i)
          have hsw := Lib.hid (fun (W : World) (h : Row W g l rest) => h.swapW (i) (i) (by omega) (by omega))
          have hh := Lib.hid (hts.out.trans (Turned.swp l (i) (i) ⟨by omega, by omega⟩ ⟨by omega, by omega⟩ (by omega)))
          clear hts
          generalize swp l (i) (i) = ls at hsw hh
          generalize at_ l (i) = x1 at ci hsw
          go_wp2_with fail
          go_region
          replace hrow := Lib.hid (hsw.out _ hrow.out)
          replace hbox := Lib.hid (hbox.out.swapW hXg (i) (i) (.int .u64 x1) (.int .u64 x1))
          replace hk := Lib.hid (hk.out.swapW (i) (i) (.int .u64 x1) (.int .u64 x1))
          clear hsw ci fi
          generalize ((w2.setCell ⟨g, i, none⟩ (.int .u64 (x1 : Nat))).setCell ⟨g, i, none⟩ (.int .u64 (x1 : Nat))).drew = w3 at hrow hk hbox ⊢
          go_wp2_with fail
          go_roundw
          case rel => exact ⟨i + 1, R', ls, by go_num, by omega, by omega, hbox, hrow, hh, hk⟩
          case measure => simp [intOf] <;> omega
        · have ci := hrow.out.at (i) (by omega)
          have cj := hrow.out.at (p) (by omega)
          have fi := hrow.out.free (i)
          have fj := hrow.out.free (p)
          have hsw := Lib.hid (fun (W : World) (h : Row W g l rest) => h.swapW (i) (p) (by omega) (by omega))
          have hh := Lib.hid (hts.out.trans (Turned.swp l (i) (p) ⟨by omega, by omega⟩ ⟨by omega, by omega⟩ (by omega)))
          clear hts
          generalize swp l (i) (p) = ls at hsw hh
          generalize at_ l (i) = x1 at ci hsw
          generalize at_ l (p) = x2 at cj hsw
          go_wp2_with fail
          go_region
          replace hrow := Lib.hid (hsw.out _ hrow.out)
          replace hbox := Lib.hid (hbox.out.swapW hXg (i) (p) (.int .u64 x2) (.int .u64 x1))
          replace hk := Lib.hid (hk.out.swapW (i) (p) (.int .u64 x2) (.int .u64 x1))
          clear hsw ci cj fi fj
          generalize ((w2.setCell ⟨g, i, none⟩ (.int .u64 (x2 : Nat))).setCell ⟨g, p, none⟩ (.int .u64 (x1 : Nat))).drew = w3 at hrow hk hbox ⊢
          go_wp2_with fail
          go_roundw
          case rel => exact ⟨i + 1, R', ls, by go_num, by omega, by omega, hbox, hrow, hh, hk⟩
          case measure => simp [intOf] <;> omega
    · have hi3' : (a : Int) + (n : Int) / 4 * 2 + 1 < (i : Int) := by omega
      go_wp2_with fail
      go_end0
      exact ⟨rfl, l, hrow, hts, hk⟩
end Go.Proofs.YtifpmcfadmmkiaaDoor
