/- breakPatterns: walked. order2, median, medianAdjacent, choosePivot: walked. -/
import Derived.Test.YtcnebfmlelcliaaB15
import Derived.Test.YtcnebfmlelcliaaLayS
namespace Go.Proofs.Ytcnebfmlelcliaa
open Go.RowKit Go.Sort Go.Lib

theorem Kept1.setNew {W0 W : World} {g X j : Nat} {v : Value} (h : Go.Proofs.Ytcnebfmlelcliaa.Kept1 W0 g W) (hX : W0.heap.size ≤ X) : Go.Proofs.Ytcnebfmlelcliaa.Kept1 W0 g (W.setCell ⟨X, j, none⟩ v) :=
  ⟨h.1, h.2.1, h.2.2.1, by have := h.2.2.2.1; simpa using this, fun k hk h1 => by
    rw [heap_setCell_other W ⟨X, j, none⟩ k v (by show k ≠ X; omega)]
    exact h.2.2.2.2 k hk h1⟩
theorem Kept1.alloc {W0 W : World} {g : Nat} (h : Go.Proofs.Ytcnebfmlelcliaa.Kept1 W0 g W) (o : Obj) : Go.Proofs.Ytcnebfmlelcliaa.Kept1 W0 g (W.alloc o) :=
  ⟨h.1, h.2.1, h.2.2.1, by have := h.2.2.2.1; simp; omega, fun k hk h1 => by
    rw [heap_alloc_old _ _ (Nat.lt_of_lt_of_le hk h.2.2.2.1)]
    exact h.2.2.2.2 k hk h1⟩
theorem Row.setOther {W : World} {g X j : Nat} {l : List Nat} {rest : List Value} {v : Value} (h : Row W g l rest) (hX : g ≠ X) : Row (W.setCell ⟨X, j, none⟩ v) g l rest := by
  unfold Row
  rw [heap_setCell_other W ⟨X, j, none⟩ g v hX]
  exact h
theorem Row.alloc {W : World} {g : Nat} {l : List Nat} {rest : List Value} (h : Row W g l rest) (o : Obj) : Row (W.alloc o) g l rest := by
  unfold Row
  rw [heap_alloc_old _ _ (Array.getElem?_eq_some_iff.1 (show W.heap[g]? = _ from h)).1]
  exact h
theorem Row.lt {W : World} {g : Nat} {l : List Nat} {rest : List Value} (h : Row W g l rest) : g < W.heap.size := (Array.getElem?_eq_some_iff.1 (show W.heap[g]? = _ from h)).1
/-- a number in a block of its own -/
def BoxU (W : World) (X : Nat) (R : Nat) : Prop := W.cell? ⟨X, 0, none⟩ = some (.int .u64 (R : Nat)) ∧ W.frozen? ⟨X, 0, none⟩ = false ∧ R < 18446744073709551616
theorem BoxU.swapW {W : World} {X R g : Nat} (h : BoxU W X R) (hX : X ≠ g) (i j : Nat) (u v : Value) : BoxU (((W.setCell ⟨g, i, none⟩ u).setCell ⟨g, j, none⟩ v).drew) X R := by
  refine ⟨?_, by simpa using h.2.1, h.2.2⟩
  show ((W.setCell ⟨g, i, none⟩ u).setCell ⟨g, j, none⟩ v).cell? ⟨X, 0, none⟩ = _
  rw [World.cell?_setCell_other _ _ _ _ (fun e => hX (by injection e with e1 _; exact e1.symm)), World.cell?_setCell_other _ _ _ _ (fun e => hX (by injection e with e1 _; exact e1.symm))]
  exact h.1
set_option maxRecDepth 100000 in
set_option maxHeartbeats 8000000 in
theorem break_any (g cap : Nat) (l0 : List Nat) (rest : List Value) (a n : Nat) (hn : 8 ≤ n) (hfl : a + n ≤ l0.length) (hlen : l0.length ≤ 2305843009213693952) (W0 : World) (hr : Row W0 g l0 rest) :
    Calls Try.prog 74 #[.slice (some ⟨g, 0, none⟩) l0.length cap, .int .i64 a, .int .i64 ((a : Int) + (n : Int))] W0 fun e W' => e = .returned (.tuple #[]) ∧ ∃ l', Hid (Row W' g l' rest) ∧ Hid (Go.Proofs.Ytcnebfmlelcliaa.Turned a (a + n) l0 l') ∧ Hid (Go.Proofs.Ytcnebfmlelcliaa.Kept1 W0 g W') := by
  have hs1 : (a : Int) + (n : Int) - (a : Int) = (n : Int) := by omega
  have h8 : (8 : Int) ≤ (n : Int) := by omega
  obtain ⟨M, hM⟩ : ∃ M : Nat, M = 1 <<< bitsLen n := ⟨_, rfl⟩
  have hM1 : 1 ≤ M := by rw [hM, Nat.one_shiftLeft]; exact Nat.two_pow_pos _
  have hM2 : M ≤ 2 * n := by rw [hM, Nat.one_shiftLeft]; exact two_pow_bitsLen_le (by omega)
  have hNP : Hid (∀ w, Calls Try.prog 87 #[.int .i64 (n : Int)] w fun e w' => e = .returned (.int .u64 (M : Int)) ∧ w' = w) := Lib.hid (by rw [hM]; exact fun w => AnyF.nextPowerOfTwo Try.nptL n (by omega) w)
  have hNext : Hid (∀ (X R : Nat) (w : World), BoxU w X R → Calls Try.prog 88 #[.pointer (some ⟨X, 0, none⟩)] w fun e w' => e = .returned (.int .u64 (xorNextN R : Nat)) ∧ w' = (w.setCell ⟨X, 0, none⟩ (.int .u64 (xorNextN R : Nat))).drewN 3) := Lib.hid (fun X R w h => AnyF.xorshift_Next Try.xorL X 0 R h.2.2 w h.1 h.2.1)
  clear hM
  have hgl := hr.lt
  have hrow := Lib.hid (hr.alloc (.cells #[.int .u64 n] 137))
  have hk := Lib.hid ((Kept1.refl W0 g).alloc (.cells #[.int .u64 n] 137))
  have hbox : Hid (BoxU (W0.alloc (.cells #[.int .u64 n] 137)) W0.heap.size n) := Lib.hid ⟨by simp, by simp, by omega⟩
  have hwn : IntKind.u64.wrap (n : Int) = n := by simp [IntKind.wrap, IntKind.bits, IntKind.signed]; omega
  clear hr
  go_enter Try.func74, Try.ntmps74
  go_wp2_with fail
  refine (hNP.out _).mono ?_
  rintro e w1 ⟨rfl, rfl⟩
  have hXg : W0.heap.size ≠ g := by omega
  obtain ⟨X, hX⟩ : ∃ X, X = W0.heap.size := ⟨_, rfl⟩
  rw [← hX] at hbox hXg ⊢
  replace hX := Lib.hid hX
  generalize W0.alloc (.cells #[.int .u64 n] 137) = w1 at hrow hk hbox ⊢
  clear hNP hgl
  go_wp2_with fail
  go_loopw [9] (fun v9 wr => ∃ (i R : Nat) (l : List Nat), v9 = .int .i64 i ∧ a + n / 4 * 2 - 1 ≤ i ∧ i ≤ a + n / 4 * 2 + 2 ∧ Hid (BoxU wr X R) ∧ Hid (Row wr g l rest) ∧ Hid (Go.Proofs.Ytcnebfmlelcliaa.Turned a (a + n) l0 l) ∧ Hid (Go.Proofs.Ytcnebfmlelcliaa.Kept1 W0 g wr)) (fun v9 _ => a + n - (intOf v9).toNat)
  case atStart => exact ⟨a + n / 4 * 2 - 1, n, l0, by congr 1; omega, Nat.le_refl _, by omega, hbox, hrow, Lib.hid (Turned.refl _ _ _), hk⟩
  case round =>
    clear hbox hrow hk
    obtain ⟨i, R, l, rfl, hi1, hi2, hbox, hrow, hts, hk⟩ := hrel
    have hll := hts.out.len
    by_cases hi3 : i ≤ a + n / 4 * 2 + 1
    · have hi3' : (i : Int) ≤ (a : Int) + (n : Int) / 4 * 2 + 1 := by omega
      have hb1 : (i : Int) < (l0.length : Int) := by omega
      obtain ⟨R', hR'⟩ : ∃ R' : Nat, R' = xorNextN R := ⟨_, rfl⟩
      have lR' : R' < 18446744073709551616 := by rw [hR']; exact xorNextN_lt R hbox.out.2.2
      obtain ⟨O, hO⟩ : ∃ O : Nat, O = R' &&& (M - 1) := ⟨_, rfl⟩
      have lO : O ≤ M - 1 := by rw [hO]; exact Nat.and_le_right
      have eAnd : bits .and .u64 (R' : Int) ((M : Int) - 1) = (O : Int) := by
        rw [show ((M : Int) - 1) = ((M - 1 : Nat) : Int) by omega, bits_and_u64_nat _ _ lR' (by omega), hO]
      have hc := hNext.out X R wr hbox.out
      rw [← hR'] at hc
      replace hc := Lib.hid hc
      have hbox2 : Hid (BoxU ((wr.setCell ⟨X, 0, none⟩ (.int .u64 (R' : Nat))).drewN 3) X R') := Lib.hid ⟨by rw [World.cell?_drewN]; exact World.cell?_setCell_same _ _ _ hbox.out.1, by rw [World.frozen?_drewN]; simpa using hbox.out.2.1, lR'⟩
      have hrow2 := Lib.hid ((hrow.out.setOther (j := 0) (v := .int .u64 (R' : Nat)) (Ne.symm hXg)).drewN 3)
      have hk2 := Lib.hid ((hk.out.setNew (j := 0) (v := .int .u64 (R' : Nat)) (Nat.le_of_eq hX.out.symm)).drewN 3)
      clear hR' hO hbox hrow hk
      by_cases hnO : n ≤ O
      · have hnO' : (n : Int) ≤ (O : Int) := by omega
        obtain ⟨p, hp⟩ : ∃ p, p = a + (O - n) := ⟨_, rfl⟩
        have ec : ((a : Int) + ((O : Int) - (n : Int))).toNat = p := by omega
        have pc : (0 : Int) ≤ (a : Int) + ((O : Int) - (n : Int)) := by omega
        have bc : (a : Int) + ((O : Int) - (n : Int)) < (l0.length : Int) := by omega
        have rc : IntKind.i64.wrap ((a : Int) + ((O : Int) - (n : Int))) = (a : Int) + ((O : Int) - (n : Int)) := by rw [IntKind.wrap_i64]; omega
        have hap : a ≤ p := by omega
        have hpn : p < a + n := by omega
        clear hp
        go_wp2_with fail
        refine hc.out.mono ?_
        rintro e w2 ⟨rfl, hw2⟩
        have hbox := hbox2
        have hrow := hrow2
        have hk := hk2
        clear hbox2 hrow2 hk2 hc
        rw [← hw2] at hbox hrow hk
        clear hw2
        by_cases heq : i = p
        · obtain rfl : i = p := heq
          have ci := hrow.out.at (i) (by omega)
          have fi := hrow.out.free (i)
          have hsw := Lib.hid (fun (W : World) (h : Row W g l rest) => h.swapW (i) (i) (by omega) (by omega))
          have hh := Lib.hid (hts.out.trans (Turned.swp l (i) (i) ⟨by omega, by omega⟩ ⟨by omega, by omega⟩ (by omega)))
          clear hts
          generalize swp l (i) (i) = ls at hsw hh
          generalize at_ l (i) = x1 at ci hsw
          go_wp2_with fail
          go_region
          replace hrow := Lib.hid (hsw.out _ hrow.out)
          replace hbox := Lib.hid (hbox.out.swapW hXg (i) (i) (.int .u64 x1) (.int .u64 x1))
          replace hk := Lib.hid (hk.out.swapW (i) (i) (.int .u64 x1) (.int .u64 x1))
          clear hsw ci fi
          generalize ((w2.setCell ⟨g, i, none⟩ (.int .u64 (x1 : Nat))).setCell ⟨g, i, none⟩ (.int .u64 (x1 : Nat))).drew = w3 at hrow hk hbox ⊢
          go_wp2_with fail
          go_roundw
          case rel => exact ⟨i + 1, R', ls, by go_num, by omega, by omega, hbox, hrow, hh, hk⟩
          case measure => simp [intOf] <;> omega
        · have ci := hrow.out.at (i) (by omega)
          have cj := hrow.out.at (p) (by omega)
          have fi := hrow.out.free (i)
          have fj := hrow.out.free (p)
          have hsw := Lib.hid (fun (W : World) (h : Row W g l rest) => h.swapW (i) (p) (by omega) (by omega))
          have hh := Lib.hid (hts.out.trans (Turned.swp l (i) (p) ⟨by omega, by omega⟩ ⟨by omega, by omega⟩ (by omega)))
          clear hts
          generalize swp l (i) (p) = ls at hsw hh
          generalize at_ l (i) = x1 at ci hsw
          generalize at_ l (p) = x2 at cj hsw
          go_wp2_with fail
          go_region
          replace hrow := Lib.hid (hsw.out _ hrow.out)
          replace hbox := Lib.hid (hbox.out.swapW hXg (i) (p) (.int .u64 x2) (.int .u64 x1))
          replace hk := Lib.hid (hk.out.swapW (i) (p) (.int .u64 x2) (.int .u64 x1))
          clear hsw ci cj fi fj
          generalize ((w2.setCell ⟨g, i, none⟩ (.int .u64 (x2 : Nat))).setCell ⟨g, p, none⟩ (.int .u64 (x1 : Nat))).drew = w3 at hrow hk hbox ⊢
          go_wp2_with fail
          go_roundw
          case rel => exact ⟨i + 1, R', ls, by go_num, by omega, by omega, hbox, hrow, hh, hk⟩
          case measure => simp [intOf] <;> omega
      · have hnO' : (O : Int) < (n : Int) := by omega
        obtain ⟨p, hp⟩ : ∃ p, p = a + O := ⟨_, rfl⟩
        have ec : ((a : Int) + (O : Int)).toNat = p := by omega
        have ec2 : a + O = p := hp.symm
        have pc : (0 : Int) ≤ (a : Int) + (O : Int) := by omega
        have bc : (a : Int) + (O : Int) < (l0.length : Int) := by omega
        have rc : IntKind.i64.wrap ((a : Int) + (O : Int)) = (a : Int) + (O : Int) := by rw [IntKind.wrap_i64]; omega
        have hap : a ≤ p := by omega
        have hpn : p < a + n := by omega
        clear hp
        go_wp2_with fail
        refine hc.out.mono ?_
        rintro e w2 ⟨rfl, hw2⟩
        have hbox := hbox2
        have hrow := hrow2
        have hk := hk2
        clear hbox2 hrow2 hk2 hc
        rw [← hw2] at hbox hrow hk
        clear hw2
        by_cases heq : i = p
        · obtain rfl : i = p := heq
          have ci := hrow.out.at (i) (by omega)
          have fi := hrow.out.free (i)
          have hsw := Lib.hid (fun (W : World) (h : Row W g l rest) => h.swapW (i) (i) (by omega) (by omega))
          have hh := Lib.hid (hts.out.trans (Turned.swp l (i) (i) ⟨by omega, by omega⟩ ⟨by omega, by omega⟩ (by omega)))
          clear hts
          generalize swp l (i) (i) = ls at hsw hh
          generalize at_ l (i) = x1 at ci hsw
          go_wp2_with fail
          go_region
          replace hrow := Lib.hid (hsw.out _ hrow.out)
          replace hbox := Lib.hid (hbox.out.swapW hXg (i) (i) (.int .u64 x1) (.int .u64 x1))
          replace hk := Lib.hid (hk.out.swapW (i) (i) (.int .u64 x1) (.int .u64 x1))
          clear hsw ci fi
          generalize ((w2.setCell ⟨g, i, none⟩ (.int .u64 (x1 : Nat))).setCell ⟨g, i, none⟩ (.int .u64 (x1 : Nat))).drew = w3 at hrow hk hbox ⊢
          go_wp2_with fail
          go_roundw
          case rel => exact ⟨i + 1, R', ls, by go_num, by omega, by omega, hbox, hrow, hh, hk⟩
          case measure => simp [intOf] <;> omega
        · have ci := hrow.out.at (i) (by omega)
          have cj := hrow.out.at (p) (by omega)
          have fi := hrow.out.free (i)
          have fj := hrow.out.free (p)
          have hsw := Lib.hid (fun (W : World) (h : Row W g l rest) => h.swapW (i) (p) (by omega) (by omega))
          have hh := Lib.hid (hts.out.trans (Turned.swp l (i) (p) ⟨by omega, by omega⟩ ⟨by omega, by omega⟩ (by omega)))
          clear hts
          generalize swp l (i) (p) = ls at hsw hh
          generalize at_ l (i) = x1 at ci hsw
          generalize at_ l (p) = x2 at cj hsw
          go_wp2_with fail
          go_region
          replace hrow := Lib.hid (hsw.out _ hrow.out)
          replace hbox := Lib.hid (hbox.out.swapW hXg (i) (p) (.int .u64 x2) (.int .u64 x1))
          replace hk := Lib.hid (hk.out.swapW (i) (p) (.int .u64 x2) (.int .u64 x1))
          clear hsw ci cj fi fj
          generalize ((w2.setCell ⟨g, i, none⟩ (.int .u64 (x2 : Nat))).setCell ⟨g, p, none⟩ (.int .u64 (x1 : Nat))).drew = w3 at hrow hk hbox ⊢
          go_wp2_with fail
          go_roundw
          case rel => exact ⟨i + 1, R', ls, by go_num, by omega, by omega, hbox, hrow, hh, hk⟩
          case measure => simp [intOf] <;> omega
    · have hi3' : (a : Int) + (n : Int) / 4 * 2 + 1 < (i : Int) := by omega
      go_wp2_with fail
      go_end0
      exact ⟨rfl, l, hrow, hts, hk⟩
end Go.Proofs.Ytcnebfmlelcliaa
namespace Go.Proofs.Ytcnebfmlelcliaa
open Go.RowKit

/-- a small number in a block of its own -/
def BoxC (W : World) (X c : Nat) : Prop := W.cell? ⟨X, 0, none⟩ = some (.int .i64 (c : Nat)) ∧ W.frozen? ⟨X, 0, none⟩ = false
theorem Row.kept {W W' : World} {g X : Nat} {l : List Nat} {rest : List Value} (h : Row W g l rest) (hk : Kept1 W X W') (hX : g ≠ X) : Row W' g l rest := (hk.2.2.2.2 g h.lt hX).trans h
def Order2 (W : World) (X c : Nat) (y z : Int) (e : Ending) (W' : World) : Prop := ∃ (u v : Int) (c' : Nat), e = .returned (.tuple #[.int .i64 u, .int .i64 v]) ∧ ((u = y ∧ v = z) ∨ (u = z ∧ v = y)) ∧ c' ≤ c + 1 ∧ Hid (BoxC W' X c') ∧ Hid (Kept1 W X W')
set_option maxRecDepth 100000 in
set_option maxHeartbeats 4000000 in
theorem order2_any (g cap X c : Nat) (l : List Nat) (rest : List Value) (y z : Int) (hy : 0 ≤ y ∧ y < l.length) (hz : 0 ≤ z ∧ z < l.length) (hlen : l.length ≤ 2305843009213693952) (hc : c ≤ 1000) (_ : g ≠ X) (W : World) (hr : Row W g l rest) (hb : BoxC W X c) :
    Calls Try.prog 93 #[.slice (some ⟨g, 0, none⟩) l.length cap, .int .i64 y, .int .i64 z, .pointer (some ⟨X, 0, none⟩)] W (Order2 W X c y z) := by
  have hle := Lib.hid less_any
  have cy := hr.at y.toNat (by omega)
  have cz := hr.at z.toNat (by omega)
  obtain ⟨b0, b1⟩ := hb
  obtain ⟨hy0, hy1⟩ := hy
  obtain ⟨hz0, hz1⟩ := hz
  have hcmp := Lib.hid (fun n => hle.out (at_ l z.toNat) (at_ l y.toNat) (W.drewN n))
  clear hr
  by_cases hlt : at_ l z.toNat < at_ l y.toNat
  · rw [decide_eq_true hlt] at hcmp
    clear hlt
    generalize at_ l z.toNat = x1 at cz hcmp
    generalize at_ l y.toNat = x2 at cy hcmp
    go_enter Try.func93, Try.ntmps93
    go_wp2_with fail
    go_quiet ((go_at_call 78; exact Calls.quiet_of_same (hcmp.out _)))
    have b0 : (W.drewN nq).cell? ⟨X, 0, none⟩ = some (.int .i64 (c : Nat)) := b0
    have b1 : (W.drewN nq).frozen? ⟨X, 0, none⟩ = false := b1
    have hk := Lib.hid (((Kept1.refl W X).drewN nq).set 0 (.int .i64 ((c : Int) + 1)))
    have hb2 : Hid (BoxC ((W.drewN nq).setCell ⟨X, 0, none⟩ (.int .i64 ((c : Int) + 1))) X (c + 1)) := Lib.hid ⟨by rw [World.cell?_setCell_same _ _ _ b0]; congr 1, by simpa using b1⟩
    generalize W.drewN nq = w2 at b0 b1 hk hb2 ⊢
    clear hcmp cz cy
    go_wp2_with fail
    go_ret2
    exact ⟨z, y, c + 1, rfl, .inr ⟨rfl, rfl⟩, Nat.le_refl _, hb2, hk⟩
  · rw [decide_eq_false hlt] at hcmp
    clear hlt
    generalize at_ l z.toNat = x1 at cz hcmp
    generalize at_ l y.toNat = x2 at cy hcmp
    go_enter Try.func93, Try.ntmps93
    go_wp2_with fail
    go_quiet ((go_at_call 78; exact Calls.quiet_of_same (hcmp.out _)))
    have hk := Lib.hid ((Kept1.refl W X).drewN nq)
    have hb2 : Hid (BoxC (W.drewN nq) X c) := Lib.hid ⟨b0, b1⟩
    generalize W.drewN nq = w2 at hk hb2 ⊢
    clear hcmp cz cy
    go_wp2_with fail
    go_ret2
    exact ⟨y, z, c, rfl, .inl ⟨rfl, rfl⟩, Nat.le_succ _, hb2, hk⟩
def MedRet (W : World) (X c d : Nat) (lo hi : Int) (e : Ending) (W' : World) : Prop := ∃ (u : Int) (c' : Nat), e = .returned (.int .i64 u) ∧ lo ≤ u ∧ u ≤ hi ∧ c' ≤ c + d ∧ Hid (BoxC W' X c') ∧ Hid (Kept1 W X W')
set_option maxRecDepth 100000 in
set_option maxHeartbeats 4000000 in
theorem median_any (g cap X c : Nat) (l : List Nat) (rest : List Value) (x y z : Int) (hx : 0 ≤ x) (hxy : x ≤ y) (hyz : y ≤ z) (hz : z < l.length) (hlen : l.length ≤ 2305843009213693952) (hc : c ≤ 500) (hX : g ≠ X) (W : World) (hr : Row W g l rest) (hb : BoxC W X c) :
    Calls Try.prog 90 #[.slice (some ⟨g, 0, none⟩) l.length cap, .int .i64 x, .int .i64 y, .int .i64 z, .pointer (some ⟨X, 0, none⟩)] W (MedRet W X c 3 x z) := by
  have h1 := Lib.hid (order2_any g cap X c l rest x y ⟨hx, by omega⟩ ⟨by omega, by omega⟩ hlen (by omega) hX W hr hb)
  replace hr := Lib.hid hr
  go_enter Try.func90, Try.ntmps90
  go_wp2_with fail
  refine h1.out.mono ?_
  rintro e w1 ⟨u1, v1, c1, rfl, huv1, hc1, hb1, hk1⟩
  have r1 := Lib.hid (hr.out.kept hk1.out hX)
  have h2 := Lib.hid (order2_any g cap X c1 l rest v1 z (by rcases huv1 with ⟨rfl, rfl⟩ | ⟨rfl, rfl⟩ <;> omega) ⟨by omega, hz⟩ hlen (by omega) hX w1 r1.out hb1.out)
  clear h1
  go_wp2_with fail
  refine h2.out.mono ?_
  rintro e w2 ⟨u2, v2, c2, rfl, huv2, hc2, hb2, hk2⟩
  have r2 := Lib.hid (r1.out.kept hk2.out hX)
  have h3 := Lib.hid (order2_any g cap X c2 l rest u1 u2 (by rcases huv1 with ⟨rfl, rfl⟩ | ⟨rfl, rfl⟩ <;> omega) (by rcases huv1 with ⟨rfl, rfl⟩ | ⟨rfl, rfl⟩ <;> rcases huv2 with ⟨rfl, rfl⟩ | ⟨rfl, rfl⟩ <;> omega) hlen (by omega) hX w2 r2.out hb2.out)
  clear h2
  go_wp2_with fail
  refine h3.out.mono ?_
  rintro e w3 ⟨u3, v3, c3, rfl, huv3, hc3, hb3, hk3⟩
  have hfin : x ≤ v3 ∧ v3 ≤ z := by rcases huv1 with ⟨rfl, rfl⟩ | ⟨rfl, rfl⟩ <;> rcases huv2 with ⟨rfl, rfl⟩ | ⟨rfl, rfl⟩ <;> rcases huv3 with ⟨rfl, rfl⟩ | ⟨rfl, rfl⟩ <;> omega
  have hk := Lib.hid (hk1.out.trans (hk2.out.trans hk3.out))
  have hcc : c3 ≤ c + 3 := by omega
  clear h3 huv1 huv2 huv3 hk1 hk2 hk3
  go_wp2_with fail
  go_ret
  exact ⟨v3, c3, rfl, hfin.1, hfin.2, hcc, hb3, hk⟩
set_option maxRecDepth 100000 in
set_option maxHeartbeats 4000000 in
theorem adjacent_any (g cap X c : Nat) (l : List Nat) (rest : List Value) (y : Int) (hy : 1 ≤ y) (hz : y + 1 < l.length) (hlen : l.length ≤ 2305843009213693952) (hc : c ≤ 500) (hX : g ≠ X) (W : World) (hr : Row W g l rest) (hb : BoxC W X c) :
    Calls Try.prog 89 #[.slice (some ⟨g, 0, none⟩) l.length cap, .int .i64 y, .pointer (some ⟨X, 0, none⟩)] W (MedRet W X c 3 (y - 1) (y + 1)) := by
  have h1 := Lib.hid (median_any g cap X c l rest (y - 1) y (y + 1) (by omega) (by omega) (by omega) hz hlen hc hX W hr hb)
  clear hr hb
  go_enter Try.func89, Try.ntmps89
  go_wp2_with fail
  refine h1.out.mono ?_
  rintro e w1 ⟨u, c', rfl, g1, g2, g3, g4, g5⟩
  clear h1
  go_wp2_with fail
  go_ret
  exact ⟨u, c', rfl, g1, g2, g3, g4, g5⟩
/-- what choosePivot hands back -/
def PivRet (W : World) (a n : Nat) (e : Ending) (W' : World) : Prop := ∃ (p : Nat) (h : Int), e = .returned (.tuple #[.int .i64 (p : Nat), .int .i64 h]) ∧ a ≤ p ∧ p < a + n ∧ Hid (Below W.heap.size W W')
theorem Kept1.belowX {W W1 W' : World} {X : Nat} (h : Below W.heap.size W W1) (hk : Kept1 W1 X W') (hX : W.heap.size ≤ X) : Below W.heap.size W W' :=
  ⟨hk.1.trans h.os, hk.2.1.trans h.tape, hk.2.2.1.trans h.output, Nat.le_trans h.size hk.2.2.2.1, fun k hk1 => (hk.2.2.2.2 k (Nat.lt_of_lt_of_le hk1 h.size) (by omega)).trans (h.block k hk1)⟩
set_option maxRecDepth 100000 in
set_option maxHeartbeats 8000000 in
theorem pivot_any (g cap : Nat) (l : List Nat) (rest : List Value) (a n : Nat) (hn : 12 < n) (hfl : a + n ≤ l.length) (hlen : l.length ≤ 2305843009213693952) (W : World) (hr : Row W g l rest) :
    Calls Try.prog 75 #[.slice (some ⟨g, 0, none⟩) l.length cap, .int .i64 a, .int .i64 ((a : Int) + (n : Int))] W (PivRet W a n) := by
  have hs1 : (a : Int) + (n : Int) - (a : Int) = (n : Int) := by omega
  have h8 : (8 : Int) ≤ (n : Int) := by omega
  have hgl := hr.lt
  have hX : g ≠ W.heap.size := by omega
  have r1 := Lib.hid (hr.alloc (.cells #[.int .i64 0] 3))
  have b1 : Hid (BoxC (W.alloc (.cells #[.int .i64 0] 3)) W.heap.size 0) := Lib.hid ⟨by simp, by simp⟩
  have hB1 := Lib.hid ((Below.refl W.heap.size W).alloc (Nat.le_refl _) (.cells #[.int .i64 0] 3))
  clear hr
  go_enter Try.func75, Try.ntmps75
  by_cases h50 : (50 : Int) ≤ (n : Int)
  · have hc2 := Lib.hid (adjacent_any g cap W.heap.size 0 l rest ((a : Int) + (n : Int) / 4) (by omega) (by omega) hlen (by omega) hX (W.alloc (.cells #[.int .i64 0] 3)) r1.out b1.out)
    go_wp2_with fail
    refine hc2.out.mono ?_
    rintro e w1 ⟨u1, c1, rfl, lo2, hi2, cc2, b2n, k2n⟩
    have r2n := Lib.hid (r1.out.kept k2n.out hX)
    have B2n := Lib.hid (Kept1.belowX hB1.out k2n.out (Nat.le_refl _))
    clear hc2
    have hc3 := Lib.hid (adjacent_any g cap W.heap.size c1 l rest ((a : Int) + (n : Int) / 4 * 2) (by omega) (by omega) hlen (by omega) hX w1 r2n.out b2n.out)
    go_wp2_with fail
    refine hc3.out.mono ?_
    rintro e w2 ⟨u2, c2, rfl, lo3, hi3, cc3, b3n, k3n⟩
    have r3n := Lib.hid (r2n.out.kept k3n.out hX)
    have B3n := Lib.hid (Kept1.belowX B2n.out k3n.out (Nat.le_refl _))
    clear hc3
    have hc4 := Lib.hid (adjacent_any g cap W.heap.size c2 l rest ((a : Int) + (n : Int) / 4 * 3) (by omega) (by omega) hlen (by omega) hX w2 r3n.out b3n.out)
    go_wp2_with fail
    refine hc4.out.mono ?_
    rintro e w3 ⟨u3, c3, rfl, lo4, hi4, cc4, b4n, k4n⟩
    have r4n := Lib.hid (r3n.out.kept k4n.out hX)
    have B4n := Lib.hid (Kept1.belowX B3n.out k4n.out (Nat.le_refl _))
    clear hc4
    have hc5 := Lib.hid (median_any g cap W.heap.size c3 l rest u1 u2 u3 (by omega) (by omega) (by omega) (by omega) hlen (by omega) hX w3 r4n.out b4n.out)
    go_wp2_with fail
    refine hc5.out.mono ?_
    rintro e w4 ⟨u4, c4, rfl, lo5, hi5, cc5, b5n, k5n⟩
    have r5n := Lib.hid (r4n.out.kept k5n.out hX)
    have B5n := Lib.hid (Kept1.belowX B4n.out k5n.out (Nat.le_refl _))
    clear hc5
    obtain ⟨p, rfl⟩ : ∃ p : Nat, u4 = p := ⟨u4.toNat, by omega⟩
    have cb := b5n.out.1
    have hpa : a ≤ p := by omega
    have hpb : p < a + n := by omega
    by_cases e0 : c4 = 0
    · subst e0
      go_wp2_with fail
      go_ret2
      exact ⟨p, _, rfl, by omega, by omega, B5n⟩
    · by_cases e12 : c4 = 12
      · subst e12
        go_wp2_with fail
        go_ret2
        exact ⟨p, _, rfl, by omega, by omega, B5n⟩
      · have q0 : (((c4 : Nat) : Int) == 0) = false := by simp; omega
        have q12 : (((c4 : Nat) : Int) == 12) = false := by simp; omega
        go_wp2_with fail
        go_ret2
        exact ⟨p, _, rfl, by omega, by omega, B5n⟩
  · have h50' : (n : Int) < 50 := by omega
    have hc5 := Lib.hid (median_any g cap W.heap.size 0 l rest ((a : Int) + (n : Int) / 4) ((a : Int) + (n : Int) / 4 * 2) ((a : Int) + (n : Int) / 4 * 3) (by omega) (by omega) (by omega) (by omega) hlen (by omega) hX (W.alloc (.cells #[.int .i64 0] 3)) r1.out b1.out)
    go_wp2_with fail
    refine hc5.out.mono ?_
    rintro e w4 ⟨u4, c4, rfl, lo5, hi5, cc5, b5n, k5n⟩
    have r5n := Lib.hid (r1.out.kept k5n.out hX)
    have B5n := Lib.hid (Kept1.belowX hB1.out k5n.out (Nat.le_refl _))
    clear hc5
    obtain ⟨p, rfl⟩ : ∃ p : Nat, u4 = p := ⟨u4.toNat, by omega⟩
    have cb := b5n.out.1
    have hpa : a ≤ p := by omega
    have hpb : p < a + n := by omega
    by_cases e0 : c4 = 0
    · subst e0
      go_wp2_with fail
      go_ret2
      exact ⟨p, _, rfl, by omega, by omega, B5n⟩
    · by_cases e12 : c4 = 12
      · subst e12
        go_wp2_with fail
        go_ret2
        exact ⟨p, _, rfl, by omega, by omega, B5n⟩
      · have q0 : (((c4 : Nat) : Int) == 0) = false := by simp; omega
        have q12 : (((c4 : Nat) : Int) == 12) = false := by simp; omega
        go_wp2_with fail
        go_ret2
        exact ⟨p, _, rfl, by omega, by omega, B5n⟩
end Go.Proofs.Ytcnebfmlelcliaa
