/- IndexFunc with mail's closures: walked; mail; Rows of which the end is cleared -/
import Derived.Test.YtdobbfjmlnlieaaGreatA01
import Derived.Test.YtdobbfjmlnlieaaGreatA02
import Derived.Laws.EntriesVeiled
import Derived.Lib.SliceRun
namespace Go.Proofs.YtdobbfjmlnlieaaGreat
set_option linter.unusedSimpArgs false
namespace Tryz
end Tryz
open Go.Proofs.Tryz Go.Proofs.YtdobbfjmlnlieaaGreat.Tryz
section
open Go.RowKit
def hf_ (o : Option Nat) : Int := match o with
 | some i => (i : Int)
 | none => -1
def ry {α : Type} (p : α → Bool) (l : List α) : Int := hf_ (l.findIdx? p)
theorem z8 (a b : Nat) : ((a : Int) == (b : Int)) = (a == b) := by rw [Qe]; simp; try omega
theorem Bc {α : Type} {p : α → Bool} {l : List α} {i : Nat} (hi : i < l.length) (hp : p l[i] = true) (hno : ∀ k (hk : k < i), p (l[k]'(by omega)) = false) : ry p l = (i : Int) := by
 have : l.findIdx? p = some i := jm.2 ⟨hi, hp, fun k hk => by simp [hno k hk]⟩;unfold ry; rw [this]; rfl
theorem Bd {α : Type} {p : α → Bool} {l : List α} (hno : ∀ k (hk : k < l.length), p l[k] = false) : ry p l = -1 := by
 have : l.findIdx? p = none := l8.2 (fun x hx => by
  obtain ⟨k, hk, rfl⟩ := gu.1 hx;exact hno k hk)
 unfold ry; rw [this]; rfl
theorem Va (x : Hm) (node : Int) (X : Nat) (W : World) (hX : W.cell? ⟨X, 0, none⟩ = some (.int .i64 node)) :
  Calls prog 110 #[.agg #[.int .i64 x.node, .int .u64 x.life, .int .u64 x.ek], .pointer (some ⟨X, 0, none⟩)] W fun e w' => e = .returned (.bool (x.node == node)) ∧ Hid (Below W.heap.size W w') := by
 have hXlt : X < W.heap.size := fu W ⟨X, 0, none⟩ hX;have hXs : X ≠ W.heap.size := by omega
 go_enter func110, ntmps110;go_wp2_with fail;all_goals
  go_ret;exact ⟨mo (by first | rfl | (simp)), hi_ ((ae _ W).alloc (ax _) _)⟩
set_option maxRecDepth 100000 in
set_option maxHeartbeats 4000000 in
theorem Vb (v : Value) (l : List Hm) (node : Int) (X : Nat) (hlen : l.length ≤ 100000) (W : World) (ho : Rd W v l.length (hmT.cells l)) (hX : W.cell? ⟨X, 0, none⟩ = some (.int .i64 node)) :
  Calls prog 109 #[v, .func (.func 110) #[] #[.pointer (some ⟨X, 0, none⟩)]] W fun e w' => ∃ r : Int, e = .returned (.int .i64 r) ∧ Hid (r = ry (fun x => x.node == node) l) ∧ Hid (Below W.heap.size W w') := by
 have hXlt : X < W.heap.size := fu W ⟨X, 0, none⟩ hX;have hf := hi_ (fun x W2 (h : Below W.heap.size W W2) => Va x node X W2 ((h.cell (p := ⟨X, 0, none⟩) hXlt).trans hX));obtain ⟨ao, cap, hv, -⟩ := id ho;subst hv;replace ho := hi_ ho;obtain ⟨p, hp⟩ : ∃ p : Hm → Bool, p = (fun x => x.node == node) := ⟨_, rfl⟩;rw [← hp];have hpx : Hid (∀ x, (x.node == node) = p x) := hi_ (fun x => by rw [hp]);clear hp hX hXlt;go_enter func109, ntmps109;go_wp2_with fail;go_loopw [8] (fun v8 wr => ∃ i : Nat, v8 = .int .i64 i ∧ i ≤ l.length ∧ Hid (∀ k (_ : k < i) (h2 : k < l.length), p l[k] = false) ∧ Hid (Below W.heap.size W wr)) (fun v8 _ => l.length - (intOf v8).toNat);case atStart => exact ⟨0, rfl, dw _, hi_ (fun k hk => by omega), hi_ (ae _ _)⟩
 case round =>
  obtain ⟨i, rfl, hi, hno, hb⟩ := hrel;by_cases hlt : i < l.length
  ·obtain ⟨b, o, cap', hv, -, hblt, hcells⟩ := hmT.ow (ho.out.below hb.out) hlt;injection hv with hv1 hv2 hv3;subst hv1 hv3;obtain ⟨x, hx⟩ : ∃ x, l[i] = x := ⟨_, rfl⟩;have r0 : wr.cell? ⟨b, o + i * 3, none⟩ = some (.int .i64 x.node) := (by have := hcells 0 _ (by rw [hx]; rfl); rwa [show o + (i * hmT.K + 0) = o + i * 3 from by simp only [hmT]; omega] at this);have r1 : wr.cell? ⟨b, o + i * 3 + 1, none⟩ = some (.int .u64 x.life) := (by have := hcells 1 _ (by rw [hx]; rfl); rwa [show o + (i * hmT.K + 1) = o + i * 3 + 1 from by simp only [hmT]; omega] at this);have r2 : wr.cell? ⟨b, o + i * 3 + 2, none⟩ = some (.int .u64 x.ek) := (by have := hcells 2 _ (by rw [hx]; rfl); rwa [show o + (i * hmT.K + 2) = o + i * 3 + 2 from by simp only [hmT]; omega] at this);have hcall := hf.out x wr hb.out;rw [hpx.out x] at hcall;have hl1 : (i : Int) < (l.length : Int) := (by omega);cases hq : p x with
   | true =>
    have hfound := hi_ (Bc hlt (by rw [hx]; exact hq) (fun k hk => hno.out k hk (by omega)) : ry p l = (i : Int));rw [hq] at hcall;replace hcall := hi_ hcall;replace hx := hi_ hx;clear hcells hq hno;go_wp2_with fail;refine hcall.out.mono ?_;rintro e w1 ⟨rfl, hb1⟩;have hB := hi_ (hb.out.trans (hb1.out.mono hb.out.size));clear hcall hb1;go_wp2_with fail;go_ret;exact ⟨_, rfl, hi_ hfound.out.symm, hB⟩
   | false =>
    have hno2 : Hid (∀ k (_ : k < i + 1) (h2 : k < l.length), p l[k] = false) := hi_ (fun k hk h2 => by
     by_cases e : k = i
     ·subst e; rw [hx]; exact hq
     exact hno.out k (by omega) h2)
    rw [hq] at hcall;replace hcall := hi_ hcall;replace hx := hi_ hx;clear hcells hq hno;go_wp2_with fail;refine hcall.out.mono ?_;rintro e w1 ⟨rfl, hb1⟩;have hB := hi_ (hb.out.trans (hb1.out.mono hb.out.size));clear hcall hb1;go_wp2_with fail;go_roundw;case rel => exact ⟨i + 1, by go_num, by omega, hno2, hB⟩
    case measure => simp [intOf] <;> omega
  have hnone := hi_ (Bd (fun k hk => hno.out k (by omega) hk) : ry p l = -1);have hl1 : (l.length : Int) ≤ (i : Int) := by omega
  go_wp2_with fail;go_ret;exact ⟨_, rfl, hi_ hnone.out.symm, hb⟩
theorem Qr (x : St) (node : Int) (ek : Nat) (X : Nat) (Y : Nat) (W : World) (hX : W.cell? ⟨X, 0, none⟩ = some (.int .i64 node)) (hY : W.cell? ⟨Y, 0, none⟩ = some (.int .u64 ek)) :
  Calls prog 111 #[.agg #[.int .u64 x.session, .int .u64 x.last, .int .i64 x.node, .int .u64 x.life, .int .u64 x.ek], .pointer (some ⟨X, 0, none⟩), .pointer (some ⟨Y, 0, none⟩)] W fun e w' => e = .returned (.bool (x.node == node && x.ek == ek)) ∧ Hid (Below W.heap.size W w') := by
 have hXlt : X < W.heap.size := fu W ⟨X, 0, none⟩ hX;have hXs : X ≠ W.heap.size := by omega
 have hYlt : Y < W.heap.size := fu W ⟨Y, 0, none⟩ hY;have hYs : Y ≠ W.heap.size := by omega
 go_enter func111, ntmps111;go_wp2_with fail;all_goals
  go_ret;exact ⟨mo (by first | rfl | (simp_all [z8])), hi_ ((ae _ W).alloc (ax _) _)⟩
set_option maxRecDepth 100000 in
set_option maxHeartbeats 4000000 in
theorem Qs (v : Value) (l : List St) (node : Int) (ek : Nat) (X : Nat) (Y : Nat) (hlen : l.length ≤ 100000) (W : World) (ho : Rd W v l.length (stT.cells l)) (hX : W.cell? ⟨X, 0, none⟩ = some (.int .i64 node)) (hY : W.cell? ⟨Y, 0, none⟩ = some (.int .u64 ek)) :
  Calls prog 98 #[v, .func (.func 111) #[] #[.pointer (some ⟨X, 0, none⟩), .pointer (some ⟨Y, 0, none⟩)]] W fun e w' => ∃ r : Int, e = .returned (.int .i64 r) ∧ Hid (r = ry (fun x => x.node == node && x.ek == ek) l) ∧ Hid (Below W.heap.size W w') := by
 have hXlt : X < W.heap.size := fu W ⟨X, 0, none⟩ hX;have hYlt : Y < W.heap.size := fu W ⟨Y, 0, none⟩ hY;have hf := hi_ (fun x W2 (h : Below W.heap.size W W2) => Qr x node ek X Y W2 ((h.cell (p := ⟨X, 0, none⟩) hXlt).trans hX) ((h.cell (p := ⟨Y, 0, none⟩) hYlt).trans hY));obtain ⟨ao, cap, hv, -⟩ := id ho;subst hv;replace ho := hi_ ho;obtain ⟨p, hp⟩ : ∃ p : St → Bool, p = (fun x => x.node == node && x.ek == ek) := ⟨_, rfl⟩;rw [← hp];have hpx : Hid (∀ x, (x.node == node && x.ek == ek) = p x) := hi_ (fun x => by rw [hp]);clear hp hX hXlt hY hYlt;go_enter func98, ntmps98;go_wp2_with fail;go_loopw [8] (fun v8 wr => ∃ i : Nat, v8 = .int .i64 i ∧ i ≤ l.length ∧ Hid (∀ k (_ : k < i) (h2 : k < l.length), p l[k] = false) ∧ Hid (Below W.heap.size W wr)) (fun v8 _ => l.length - (intOf v8).toNat);case atStart => exact ⟨0, rfl, dw _, hi_ (fun k hk => by omega), hi_ (ae _ _)⟩
 case round =>
  obtain ⟨i, rfl, hi, hno, hb⟩ := hrel;by_cases hlt : i < l.length
  ·obtain ⟨b, o, cap', hv, -, hblt, hcells⟩ := stT.ow (ho.out.below hb.out) hlt;injection hv with hv1 hv2 hv3;subst hv1 hv3;obtain ⟨x, hx⟩ : ∃ x, l[i] = x := ⟨_, rfl⟩;have r0 : wr.cell? ⟨b, o + i * 5, none⟩ = some (.int .u64 x.session) := (by have := hcells 0 _ (by rw [hx]; rfl); rwa [show o + (i * stT.K + 0) = o + i * 5 from by simp only [stT]; omega] at this);have r1 : wr.cell? ⟨b, o + i * 5 + 1, none⟩ = some (.int .u64 x.last) := (by have := hcells 1 _ (by rw [hx]; rfl); rwa [show o + (i * stT.K + 1) = o + i * 5 + 1 from by simp only [stT]; omega] at this);have r2 : wr.cell? ⟨b, o + i * 5 + 2, none⟩ = some (.int .i64 x.node) := (by have := hcells 2 _ (by rw [hx]; rfl); rwa [show o + (i * stT.K + 2) = o + i * 5 + 2 from by simp only [stT]; omega] at this);have r3 : wr.cell? ⟨b, o + i * 5 + 3, none⟩ = some (.int .u64 x.life) := (by have := hcells 3 _ (by rw [hx]; rfl); rwa [show o + (i * stT.K + 3) = o + i * 5 + 3 from by simp only [stT]; omega] at this);have r4 : wr.cell? ⟨b, o + i * 5 + 4, none⟩ = some (.int .u64 x.ek) := (by have := hcells 4 _ (by rw [hx]; rfl); rwa [show o + (i * stT.K + 4) = o + i * 5 + 4 from by simp only [stT]; omega] at this);have hcall := hf.out x wr hb.out;rw [hpx.out x] at hcall;have hl1 : (i : Int) < (l.length : Int) := (by omega);cases hq : p x with
   | true =>
    have hfound := hi_ (Bc hlt (by rw [hx]; exact hq) (fun k hk => hno.out k hk (by omega)) : ry p l = (i : Int));rw [hq] at hcall;replace hcall := hi_ hcall;replace hx := hi_ hx;clear hcells hq hno;go_wp2_with fail;refine hcall.out.mono ?_;rintro e w1 ⟨rfl, hb1⟩;have hB := hi_ (hb.out.trans (hb1.out.mono hb.out.size));clear hcall hb1;go_wp2_with fail;go_ret;exact ⟨_, rfl, hi_ hfound.out.symm, hB⟩
   | false =>
    have hno2 : Hid (∀ k (_ : k < i + 1) (h2 : k < l.length), p l[k] = false) := hi_ (fun k hk h2 => by
     by_cases e : k = i
     ·subst e; rw [hx]; exact hq
     exact hno.out k (by omega) h2)
    rw [hq] at hcall;replace hcall := hi_ hcall;replace hx := hi_ hx;clear hcells hq hno;go_wp2_with fail;refine hcall.out.mono ?_;rintro e w1 ⟨rfl, hb1⟩;have hB := hi_ (hb.out.trans (hb1.out.mono hb.out.size));clear hcall hb1;go_wp2_with fail;go_roundw;case rel => exact ⟨i + 1, by go_num, by omega, hno2, hB⟩
    case measure => simp [intOf] <;> omega
  have hnone := hi_ (Bd (fun k hk => hno.out k (by omega) hk) : ry p l = -1);have hl1 : (l.length : Int) ≤ (i : Int) := by omega
  go_wp2_with fail;go_ret;exact ⟨_, rfl, hi_ hnone.out.symm, hb⟩
theorem Uj (x : St) (session : Nat) (X : Nat) (W : World) (hX : W.cell? ⟨X, 0, none⟩ = some (.int .u64 session)) :
  Calls prog 99 #[.agg #[.int .u64 x.session, .int .u64 x.last, .int .i64 x.node, .int .u64 x.life, .int .u64 x.ek], .pointer (some ⟨X, 0, none⟩)] W fun e w' => e = .returned (.bool (x.session == session)) ∧ Hid (Below W.heap.size W w') := by
 have hXlt : X < W.heap.size := fu W ⟨X, 0, none⟩ hX;have hXs : X ≠ W.heap.size := by omega
 go_enter func99, ntmps99;go_wp2_with fail;all_goals
  go_ret;exact ⟨mo (by first | rfl | (exact z8 _ _)), hi_ ((ae _ W).alloc (ax _) _)⟩
set_option maxRecDepth 100000 in
set_option maxHeartbeats 4000000 in
theorem Uk (v : Value) (l : List St) (session : Nat) (X : Nat) (hlen : l.length ≤ 100000) (W : World) (ho : Rd W v l.length (stT.cells l)) (hX : W.cell? ⟨X, 0, none⟩ = some (.int .u64 session)) :
  Calls prog 98 #[v, .func (.func 99) #[] #[.pointer (some ⟨X, 0, none⟩)]] W fun e w' => ∃ r : Int, e = .returned (.int .i64 r) ∧ Hid (r = ry (fun x => x.session == session) l) ∧ Hid (Below W.heap.size W w') := by
 have hXlt : X < W.heap.size := fu W ⟨X, 0, none⟩ hX;have hf := hi_ (fun x W2 (h : Below W.heap.size W W2) => Uj x session X W2 ((h.cell (p := ⟨X, 0, none⟩) hXlt).trans hX));obtain ⟨ao, cap, hv, -⟩ := id ho;subst hv;replace ho := hi_ ho;obtain ⟨p, hp⟩ : ∃ p : St → Bool, p = (fun x => x.session == session) := ⟨_, rfl⟩;rw [← hp];have hpx : Hid (∀ x, (x.session == session) = p x) := hi_ (fun x => by rw [hp]);clear hp hX hXlt;go_enter func98, ntmps98;go_wp2_with fail;go_loopw [8] (fun v8 wr => ∃ i : Nat, v8 = .int .i64 i ∧ i ≤ l.length ∧ Hid (∀ k (_ : k < i) (h2 : k < l.length), p l[k] = false) ∧ Hid (Below W.heap.size W wr)) (fun v8 _ => l.length - (intOf v8).toNat);case atStart => exact ⟨0, rfl, dw _, hi_ (fun k hk => by omega), hi_ (ae _ _)⟩
 case round =>
  obtain ⟨i, rfl, hi, hno, hb⟩ := hrel;by_cases hlt : i < l.length
  ·obtain ⟨b, o, cap', hv, -, hblt, hcells⟩ := stT.ow (ho.out.below hb.out) hlt;injection hv with hv1 hv2 hv3;subst hv1 hv3;obtain ⟨x, hx⟩ : ∃ x, l[i] = x := ⟨_, rfl⟩;have r0 : wr.cell? ⟨b, o + i * 5, none⟩ = some (.int .u64 x.session) := (by have := hcells 0 _ (by rw [hx]; rfl); rwa [show o + (i * stT.K + 0) = o + i * 5 from by simp only [stT]; omega] at this);have r1 : wr.cell? ⟨b, o + i * 5 + 1, none⟩ = some (.int .u64 x.last) := (by have := hcells 1 _ (by rw [hx]; rfl); rwa [show o + (i * stT.K + 1) = o + i * 5 + 1 from by simp only [stT]; omega] at this);have r2 : wr.cell? ⟨b, o + i * 5 + 2, none⟩ = some (.int .i64 x.node) := (by have := hcells 2 _ (by rw [hx]; rfl); rwa [show o + (i * stT.K + 2) = o + i * 5 + 2 from by simp only [stT]; omega] at this);have r3 : wr.cell? ⟨b, o + i * 5 + 3, none⟩ = some (.int .u64 x.life) := (by have := hcells 3 _ (by rw [hx]; rfl); rwa [show o + (i * stT.K + 3) = o + i * 5 + 3 from by simp only [stT]; omega] at this);have r4 : wr.cell? ⟨b, o + i * 5 + 4, none⟩ = some (.int .u64 x.ek) := (by have := hcells 4 _ (by rw [hx]; rfl); rwa [show o + (i * stT.K + 4) = o + i * 5 + 4 from by simp only [stT]; omega] at this);have hcall := hf.out x wr hb.out;rw [hpx.out x] at hcall;have hl1 : (i : Int) < (l.length : Int) := (by omega);cases hq : p x with
   | true =>
    have hfound := hi_ (Bc hlt (by rw [hx]; exact hq) (fun k hk => hno.out k hk (by omega)) : ry p l = (i : Int));rw [hq] at hcall;replace hcall := hi_ hcall;replace hx := hi_ hx;clear hcells hq hno;go_wp2_with fail;refine hcall.out.mono ?_;rintro e w1 ⟨rfl, hb1⟩;have hB := hi_ (hb.out.trans (hb1.out.mono hb.out.size));clear hcall hb1;go_wp2_with fail;go_ret;exact ⟨_, rfl, hi_ hfound.out.symm, hB⟩
   | false =>
    have hno2 : Hid (∀ k (_ : k < i + 1) (h2 : k < l.length), p l[k] = false) := hi_ (fun k hk h2 => by
     by_cases e : k = i
     ·subst e; rw [hx]; exact hq
     exact hno.out k (by omega) h2)
    rw [hq] at hcall;replace hcall := hi_ hcall;replace hx := hi_ hx;clear hcells hq hno;go_wp2_with fail;refine hcall.out.mono ?_;rintro e w1 ⟨rfl, hb1⟩;have hB := hi_ (hb.out.trans (hb1.out.mono hb.out.size));clear hcall hb1;go_wp2_with fail;go_roundw;case rel => exact ⟨i + 1, by go_num, by omega, hno2, hB⟩
    case measure => simp [intOf] <;> omega
  have hnone := hi_ (Bd (fun k hk => hno.out k (by omega) hk) : ry p l = -1);have hl1 : (l.length : Int) ≤ (i : Int) := by omega
  go_wp2_with fail;go_ret;exact ⟨_, rfl, hi_ hnone.out.symm, hb⟩
theorem bu_ (x : BxV) (name : ByteArray) (X : Nat) (W : World) (hX : W.cell? ⟨X, 0, none⟩ = some (.string name)) :
  Calls prog 105 #[.agg #[.string x.name, .int .u64 x.ag, .int .u64 x.next, .int .u64 x.high, .slice x.a x.rows.length x.c], .pointer (some ⟨X, 0, none⟩)] W fun e w' => e = .returned (.bool (x.name.toList == name.toList)) ∧ Hid (Below W.heap.size W w') := by
 have hXlt : X < W.heap.size := fu W ⟨X, 0, none⟩ hX;have hXs : X ≠ W.heap.size := by omega
 go_enter func105, ntmps105;go_wp2_with fail;all_goals
  go_ret;exact ⟨mo (by first | rfl | (simp)), hi_ ((ae _ W).alloc (ax _) _)⟩
set_option maxRecDepth 100000 in
set_option maxHeartbeats 4000000 in
theorem bv_ (v : Value) (l : List BxV) (name : ByteArray) (X : Nat) (hlen : l.length ≤ 100000) (W : World) (ho : Rd W v l.length (bxT.cells l)) (hX : W.cell? ⟨X, 0, none⟩ = some (.string name)) :
  Calls prog 104 #[v, .func (.func 105) #[] #[.pointer (some ⟨X, 0, none⟩)]] W fun e w' => ∃ r : Int, e = .returned (.int .i64 r) ∧ Hid (r = ry (fun x => x.name.toList == name.toList) l) ∧ Hid (Below W.heap.size W w') := by
 have hXlt : X < W.heap.size := fu W ⟨X, 0, none⟩ hX;have hf := hi_ (fun x W2 (h : Below W.heap.size W W2) => bu_ x name X W2 ((h.cell (p := ⟨X, 0, none⟩) hXlt).trans hX));obtain ⟨ao, cap, hv, -⟩ := id ho;subst hv;replace ho := hi_ ho;obtain ⟨p, hp⟩ : ∃ p : BxV → Bool, p = (fun x => x.name.toList == name.toList) := ⟨_, rfl⟩;rw [← hp];have hpx : Hid (∀ x, (x.name.toList == name.toList) = p x) := hi_ (fun x => by rw [hp]);clear hp hX hXlt;go_enter func104, ntmps104;go_wp2_with fail;go_loopw [8] (fun v8 wr => ∃ i : Nat, v8 = .int .i64 i ∧ i ≤ l.length ∧ Hid (∀ k (_ : k < i) (h2 : k < l.length), p l[k] = false) ∧ Hid (Below W.heap.size W wr)) (fun v8 _ => l.length - (intOf v8).toNat);case atStart => exact ⟨0, rfl, dw _, hi_ (fun k hk => by omega), hi_ (ae _ _)⟩
 case round =>
  obtain ⟨i, rfl, hi, hno, hb⟩ := hrel;by_cases hlt : i < l.length
  ·obtain ⟨b, o, cap', hv, -, hblt, hcells⟩ := bxT.ow (ho.out.below hb.out) hlt;injection hv with hv1 hv2 hv3;subst hv1 hv3;obtain ⟨x, hx⟩ : ∃ x, l[i] = x := ⟨_, rfl⟩;have r0 : wr.cell? ⟨b, o + i * 5, none⟩ = some (.string x.name) := (by have := hcells 0 _ (by rw [hx]; rfl); rwa [show o + (i * bxT.K + 0) = o + i * 5 from by simp only [bxT]; omega] at this);have r1 : wr.cell? ⟨b, o + i * 5 + 1, none⟩ = some (.int .u64 x.ag) := (by have := hcells 1 _ (by rw [hx]; rfl); rwa [show o + (i * bxT.K + 1) = o + i * 5 + 1 from by simp only [bxT]; omega] at this);have r2 : wr.cell? ⟨b, o + i * 5 + 2, none⟩ = some (.int .u64 x.next) := (by have := hcells 2 _ (by rw [hx]; rfl); rwa [show o + (i * bxT.K + 2) = o + i * 5 + 2 from by simp only [bxT]; omega] at this);have r3 : wr.cell? ⟨b, o + i * 5 + 3, none⟩ = some (.int .u64 x.high) := (by have := hcells 3 _ (by rw [hx]; rfl); rwa [show o + (i * bxT.K + 3) = o + i * 5 + 3 from by simp only [bxT]; omega] at this);have r4 : wr.cell? ⟨b, o + i * 5 + 4, none⟩ = some (.slice x.a x.rows.length x.c) := (by have := hcells 4 _ (by rw [hx]; rfl); rwa [show o + (i * bxT.K + 4) = o + i * 5 + 4 from by simp only [bxT]; omega] at this);have hcall := hf.out x wr hb.out;rw [hpx.out x] at hcall;have hl1 : (i : Int) < (l.length : Int) := (by omega);cases hq : p x with
   | true =>
    have hfound := hi_ (Bc hlt (by rw [hx]; exact hq) (fun k hk => hno.out k hk (by omega)) : ry p l = (i : Int));rw [hq] at hcall;replace hcall := hi_ hcall;replace hx := hi_ hx;clear hcells hq hno;go_wp2_with fail;refine hcall.out.mono ?_;rintro e w1 ⟨rfl, hb1⟩;have hB := hi_ (hb.out.trans (hb1.out.mono hb.out.size));clear hcall hb1;go_wp2_with fail;go_ret;exact ⟨_, rfl, hi_ hfound.out.symm, hB⟩
   | false =>
    have hno2 : Hid (∀ k (_ : k < i + 1) (h2 : k < l.length), p l[k] = false) := hi_ (fun k hk h2 => by
     by_cases e : k = i
     ·subst e; rw [hx]; exact hq
     exact hno.out k (by omega) h2)
    rw [hq] at hcall;replace hcall := hi_ hcall;replace hx := hi_ hx;clear hcells hq hno;go_wp2_with fail;refine hcall.out.mono ?_;rintro e w1 ⟨rfl, hb1⟩;have hB := hi_ (hb.out.trans (hb1.out.mono hb.out.size));clear hcall hb1;go_wp2_with fail;go_roundw;case rel => exact ⟨i + 1, by go_num, by omega, hno2, hB⟩
    case measure => simp [intOf] <;> omega
  have hnone := hi_ (Bd (fun k hk => hno.out k (by omega) hk) : ry p l = -1);have hl1 : (l.length : Int) ≤ (i : Int) := by omega
  go_wp2_with fail;go_ret;exact ⟨_, rfl, hi_ hnone.out.symm, hb⟩
end
section
open Go.RowKit
theorem Ii (w : World) (v : Value) (t : TypeId) (n : Nat) (h : w.heap.size = n) : (w.alloc (.cells #[v] t)).cell? ⟨n, 0, none⟩ = some v := by subst h; simp
theorem lg {w : World} (o : Obj) {a : Addr} {v : Value} (h : w.cell? a = some v) : (w.alloc o).cell? a = some v := by
 rw [World.cell?_alloc_lt _ _ _ (fu w a h)]; exact h
def Cx (W : World) (r : Int) (e : Ending) (w' : World) : Prop := e = .returned (.int .i64 r) ∧ Hid (Below W.heap.size W w')
set_option maxRecDepth 100000 in
set_option maxHeartbeats 4000000 in
theorem do_ {W : World} (ab ah as_ : Option Addr) (nb cb ch ns cs nv nse sw : Nat) (hs : List Hm) (node : Int) (hh : F_ W (.slice ah hs.length ch) hs) (hl : hs.length ≤ 100000) :
  Calls prog 75 #[yg (.slice ab nb cb) nv (.slice ah hs.length ch) (.slice as_ ns cs) nse sw, .int .i64 node] W (Cx W (ry (fun x => x.node == node) hs)) := by
 have hb : Below W.heap.size W ((W.alloc (.cells #[.slice ab nb cb, .int .u64 nv, .slice ah hs.length ch, .slice as_ ns cs, .int .u64 nse, .int .u64 sw] 27)).alloc (.cells #[.int .i64 node] 3)) := ((ae _ W).alloc (ax _) _).alloc (by simp) _;have hc := hi_ (Vb (.slice ah hs.length ch) hs node (W.heap.size + 1) hl _ (jf hh hb) (Ii _ _ _ _ (by simp)));replace hb := hi_ hb;unfold yg;go_enter func75, ntmps75;go_wp2_with fail;refine hc.out.mono ?_;rintro e w2 ⟨r, rfl, hr, hb2⟩;have hB := hi_ (hb.out.trans (hb2.out.mono hb.out.size));clear hc hb2;go_wp2_with fail;go_ret;exact ⟨Nq hr.out, hB⟩
set_option maxRecDepth 100000 in
set_option maxHeartbeats 4000000 in
theorem Xr {W : World} (ab ah as_ : Option Addr) (nb cb nh ch cs nv nse sw : Nat) (ss : List St) (node : Int) (ek : Nat) (hh : z_ W (.slice as_ ss.length cs) ss) (hl : ss.length ≤ 100000) :
  Calls prog 76 #[yg (.slice ab nb cb) nv (.slice ah nh ch) (.slice as_ ss.length cs) nse sw, .int .i64 node, .int .u64 ek] W (Cx W (ry (fun x => x.node == node && x.ek == ek) ss)) := by
 have hb : Below W.heap.size W (((W.alloc (.cells #[.slice ab nb cb, .int .u64 nv, .slice ah nh ch, .slice as_ ss.length cs, .int .u64 nse, .int .u64 sw] 27)).alloc (.cells #[.int .i64 node] 3)).alloc (.cells #[.int .u64 ek] 23)) := (((ae _ W).alloc (ax _) _).alloc (by simp) _).alloc (by simp; omega) _;have hc := hi_ (Qs (.slice as_ ss.length cs) ss node ek (W.heap.size + 1) (W.heap.size + 1 + 1) hl _ (jf hh hb) (lg _ (Ii _ _ _ _ (by simp))) (Ii _ _ _ _ (by simp)));replace hb := hi_ hb;unfold yg;go_enter func76, ntmps76;go_wp2_with fail;refine hc.out.mono ?_;rintro e w2 ⟨r, rfl, hr, hb2⟩;have hB := hi_ (hb.out.trans (hb2.out.mono hb.out.size));clear hc hb2;go_wp2_with fail;go_ret;exact ⟨Nq hr.out, hB⟩
set_option maxRecDepth 100000 in
set_option maxHeartbeats 4000000 in
theorem cr_ {W : World} (ab ah as_ : Option Addr) (nb cb nh ch cs nv nse sw : Nat) (ss : List St) (session : Nat) (hh : z_ W (.slice as_ ss.length cs) ss) (hl : ss.length ≤ 100000) :
  Calls prog 45 #[yg (.slice ab nb cb) nv (.slice ah nh ch) (.slice as_ ss.length cs) nse sw, .int .u64 session] W (Cx W (ry (fun x => x.session == session) ss)) := by
 have hb : Below W.heap.size W ((W.alloc (.cells #[.slice ab nb cb, .int .u64 nv, .slice ah nh ch, .slice as_ ss.length cs, .int .u64 nse, .int .u64 sw] 27)).alloc (.cells #[.int .u64 session] 23)) := ((ae _ W).alloc (ax _) _).alloc (by simp) _;have hc := hi_ (Uk (.slice as_ ss.length cs) ss session (W.heap.size + 1) hl _ (jf hh hb) (Ii _ _ _ _ (by simp)));replace hb := hi_ hb;unfold yg;go_enter func45, ntmps45;go_wp2_with fail;refine hc.out.mono ?_;rintro e w2 ⟨r, rfl, hr, hb2⟩;have hB := hi_ (hb.out.trans (hb2.out.mono hb.out.size));clear hc hb2;go_wp2_with fail;go_ret;exact ⟨Nq hr.out, hB⟩
def atB (name : ByteArray) (bs : List BxV) : Int := ry (fun x => x.name.toList == name.toList) bs
set_option maxRecDepth 100000 in
set_option maxHeartbeats 4000000 in
theorem ek_ {W : World} (ab ah as_ : Option Addr) (cb nh ch ns cs nv nse sw : Nat) (bs : List BxV) (name : ByteArray) (hh : Rd W (.slice ab bs.length cb) bs.length (bxT.cells bs)) (hl : bs.length ≤ 100000) :
  Calls prog 56 #[yg (.slice ab bs.length cb) nv (.slice ah nh ch) (.slice as_ ns cs) nse sw, .string name] W (Cx W (atB name bs)) := by
 have hb : Below W.heap.size W ((W.alloc (.cells #[.slice ab bs.length cb, .int .u64 nv, .slice ah nh ch, .slice as_ ns cs, .int .u64 nse, .int .u64 sw] 27)).alloc (.cells #[.string name] 9)) := ((ae _ W).alloc (ax _) _).alloc (by simp) _;have hc := hi_ (bv_ (.slice ab bs.length cb) bs name (W.heap.size + 1) hl _ (jf hh hb) (Ii _ _ _ _ (by simp)));replace hb := hi_ hb;unfold yg;go_enter func56, ntmps56;go_wp2_with fail;refine hc.out.mono ?_;rintro e w2 ⟨r, rfl, hr, hb2⟩;have hB := hi_ (hb.out.trans (hb2.out.mono hb.out.size));clear hc hb2;go_wp2_with fail;go_ret;exact ⟨Nq hr.out, hB⟩
end
section
open Go.RowKit
theorem zi {g : Nat} {t : TypeId} : ∀ (vs : List Value) (o : Nat) (C : List Value) (W : World), W.heap[g]? = some (.cells C.toArray t (0, 0)) → o + vs.length ≤ C.length → (W.setCells g o vs).heap[g]? = some (.cells (C.take o ++ vs ++ C.drop (o + vs.length)).toArray t (0, 0))
 | [], o, C, W, h, hl => by simpa [World.setCells] using h
 | v :: r, o, C, W, h, hl => by
  simp only [qc] at hl;rw [World.setCells, zi r (o + 1) (C.set o v) _ (Bf h o v) (by rw [gq]; omega)];have e : (C.set o v).take (o + 1) ++ r ++ (C.set o v).drop (o + 1 + r.length) = C.take o ++ (v :: r) ++ C.drop (o + (v :: r).length) := by
   rw [List.drop_set_of_lt (by omega), List.take_set];have e1 : (C.take (o + 1)).set o v = C.take o ++ [v] := by
    rw [ak (by omega), t_ _ _ (by rw [bf]; omega), bf, show o - min o C.length = 0 from by omega]; rfl
   rw [e1, jd, jd, jd, qc, show o + 1 + r.length = o + (r.length + 1) from by omega]; rfl
  rw [e]
theorem o_.sets {W : World} {g : Nat} : ∀ (vs : List Value) (o : Nat) {W' : World}, o_ W g W' → o_ W g (W'.setCells g o vs)
 | [], _, _, h => h
 | v :: r, o, _, h => o_.sets r (o + 1) (h.set o v)
section
variable {α : Type} {R : RT α}
theorem RT.zeroV (R : RT α) (W : World) : (zeroValue R.t).run prog W = .ok R.z W := by
 obtain ⟨i, hi, hz, -, -⟩ := info_parts R.info;simp [zeroValue, typeInfo, hi, hz]
theorem RT.zeroCells (R : RT α) (zr : α) (hz : R.enc zr = R.z.cells.toList) (n : Nat) : (Builtin.zeroCells R.z.cells n).toList = R.cells (List.replicate n zr) := by
 have hK := R.pos;have hzs := R.zs;have hl : (Builtin.zeroCells R.z.cells n).toList.length = n * R.K := by simp [Builtin.zeroCells, hzs]
 apply Fa;intro i;by_cases hi : i < n * R.K
 ·obtain ⟨m, q, hq, rfl⟩ : ∃ m q, q < R.K ∧ i = m * R.K + q := ⟨i / R.K, i % R.K, Gs _ hK, by rw [Cy]; exact (Qd i R.K).symm⟩;have hm : m < n := by
   rcases oo m n with h1 | h1
   ·exact h1
   have := kz R.K h1; omega
  rw [R.yo _ m (by rw [Cb]; exact hm) q hq, List.getElem_replicate, hz];simp only [Builtin.zeroCells, Array.toList_map, Array.toList_range, ji, hzs];rw [List.getElem?_range hi, Bi, show (m * R.K + q) % R.K = q from by rw [Cy, Nat.mul_add_mod, Nat.mod_eq_of_lt hq], getElem!_pos _ _ (by rw [hzs]; exact hq), ze, ng (by rw [hzs]; exact hq)]
 rw [zb (by omega), zb (by rw [R.kg, Cb]; omega)]
theorem RT.PR.clear {W : World} {g : Nat} {l : List α} {rest : List Value} (h : R.PR W g l rest) (zr : α) (hz : R.enc zr = R.z.cells.toList) (i n : Nat) (hn : 0 < n) (hi : i + n = l.length) (c : Nat) (ty : TypeId) :
  (Builtin.clear_ #[R.ts] ty #[.slice (some ⟨g, i * R.K, none⟩) n c]).run prog W = .ok (.tuple #[]) (W.setCells g (i * R.K) (R.cells (List.replicate n zr))) := by
 have hK := R.pos;have hln : (R.cells (List.replicate n zr)).length = n * R.K := by rw [R.kg, Cb]
 have hll : i * R.K + n * R.K = l.length * R.K := by rw [← hi, Nat.add_mul]
 have hst := run_storeCells_cells (P := prog) g (i * R.K) (R.cells (List.replicate n zr)) 0 W (fun j hj => by
  rw [hln] at hj;rw [Cz, Kt h];rw [ai, ko (by rw [R.kg]; omega)];rw [ay (by rw [R.kg]; omega)]; rfl) (fun j _ => h.free _) (R.cells_one _)
 simp only [Cz] at hst;obtain ⟨m, rfl⟩ : ∃ m, n = m + 1 := ⟨n - 1, by omega⟩;simp [Builtin.clear_, run_underlying R.und, R.zeroV, R.zeroCells zr hz, hst]
theorem RT.PR.cleared {W : World} {g : Nat} {l : List α} {rest : List Value} (h : R.PR W g l rest) (zr : α) (i n : Nat) (hi : i + n = l.length) : R.PR (W.setCells g (i * R.K) (R.cells (List.replicate n zr))) g (l.take i ++ List.replicate n zr) rest := by
 have hll : i * R.K + n * R.K = l.length * R.K := by rw [← hi, Nat.add_mul]
 have hln : (R.cells (List.replicate n zr)).length = n * R.K := by rw [R.kg, Cb]
 unfold RT.PR;rw [zi _ _ _ _ h (by rw [hln, bz, R.kg]; omega), hln, hll];have e1 : R.cells l = R.cells (l.take i) ++ R.cells (l.drop i) := by rw [← R.yt, qh]
 have e2 : (R.cells (l.take i)).length = i * R.K := by rw [R.kg, bf]; congr 1; omega
 have e3 : (R.cells l ++ rest).take (i * R.K) = R.cells (l.take i) := by
  rw [e1, jd, Hl (by rw [e2]; exact ax _), jr (by rw [e2]; exact ax _)]
 have e4 : (R.cells l ++ rest).drop (l.length * R.K) = rest := by
  rw [← R.kg, List.drop_left]
 rw [e3, e4, R.yt]
theorem Zoo.clear {W0 W : World} {L : List Th} {v : Value} {l : List α} (h : Zoo W0 W L) (i : Nat) (hi : L[i]? = some (R.row v l)) (zr : α) (hz : R.enc zr = R.z.cells.toList) (k n : Nat) (hn : 0 < n) (hk : k + n = l.length) :
  ∃ g cap, v = .slice (some ⟨g, 0, none⟩) l.length cap ∧ l.length ≤ cap ∧ (∀ c ty, (Builtin.clear_ #[R.ts] ty #[.slice (some ⟨g, k * R.K, none⟩) n c]).run prog W = .ok (.tuple #[]) (W.setCells g (k * R.K) (R.cells (List.replicate n zr)))) ∧ Zoo W0 (W.setCells g (k * R.K) (R.cells (List.replicate n zr))) (L.set i (R.row (.slice (some ⟨g, 0, none⟩) k cap) (l.take k))) := by
 obtain ⟨F, ⟨ho, hF⟩, hlow, hact⟩ := h.act i _ hi;obtain ⟨g, cap, rest, rfl, hc, hg, hrow, hback⟩ := ho.row (by omega);have h2 := hback _ _ k (by omega) (by rw [bz, bf, Cb]; omega) (hrow.cleared zr k n hk);rw [Hl (by rw [bf]; omega), List.take_take, Nat.min_self] at h2;have hkb : o_ W g (W.setCells g (k * R.K) (R.cells (List.replicate n zr))) := o_.sets _ _ (o_.refl W g);exact ⟨g, cap, rfl, hc, fun c ty => hrow.clear zr hz k n hn hk c ty, hact _ F _ ⟨h2, hF⟩ (hkb.grows hF rfl)⟩
end
theorem Jp {α : Type} (p : α → Bool) (l : List α) : (ry p l = -1 ∧ l.filter (fun x => !p x) = l) ∨ ∃ (i : Nat) (hi : i < l.length), ry p l = (i : Int) ∧ p l[i] = true ∧ ∀ k (hk : k < i), p (l[k]'(by omega)) = false := by
 unfold ry;cases h : l.findIdx? p with
 | none =>
  refine .inl ⟨rfl, List.filter_eq_self.2 (fun x hx => ?_)⟩;rw [l8.1 h x hx]; rfl
 | some i =>
  obtain ⟨hi, h1, h2⟩ := jm.1 h;exact .inr ⟨i, hi, rfl, h1, fun k hk => by have := h2 k hk; simpa using this⟩
structure Kept {α : Type} (p : α → Bool) (l cur : List α) (i j : Nat) : Prop where
 len : cur.length = l.length
 lt : i < j
 le : j ≤ l.length
 done : cur.take i = (l.take j).filter (fun x => !p x)
 todo : cur.drop j = l.drop j
theorem Kept.start {α : Type} {p : α → Bool} {l : List α} {i : Nat} (hi : i < l.length) (hp : p l[i] = true) (hno : ∀ k (hk : k < i), p (l[k]'(by omega)) = false) : Kept p l l i (i + 1) where
 len := rfl
 lt := Nat.lt_succ_self _
 le := hi
 done := by
  rw [ak hi, kv, List.filter_eq_self.2 (fun x hx => by
   obtain ⟨k, hk, rfl⟩ := gu.1 hx;rw [bf] at hk;rw [Ce, hno k (by omega)]; rfl)]
  simp [hp]
 todo := rfl
theorem Kept.get {α : Type} {p : α → Bool} {l cur : List α} {i j : Nat} (h : Kept p l cur i j) (hj : j < l.length) : cur[j]'(by have := h.len; omega) = l[j] := by
 have := h.todo;have e1 := pu (l := cur) (i := j) (by have := h.len; omega);have e2 := pu (l := l) (i := j) hj;rw [e1, e2] at this;exact (List.cons.inj this).1
theorem Kept.skip {α : Type} {p : α → Bool} {l cur : List α} {i j : Nat} (h : Kept p l cur i j) (hj : j < l.length) (hp : p l[j] = true) : Kept p l cur i (j + 1) where
 len := h.len
 lt := Nat.lt_succ_of_lt h.lt
 le := hj
 done := by rw [h.done, ak hj, kv]; simp [hp]
 todo := by rw [← Jz, ← Jz, h.todo]
theorem Kept.keep {α : Type} {p : α → Bool} {l cur : List α} {i j : Nat} (h : Kept p l cur i j) (hj : j < l.length) (hp : p l[j] = false) : Kept p l (cur.set i l[j]) (i + 1) (j + 1) where
 len := by rw [gq]; exact h.len
 lt := Nat.succ_lt_succ h.lt
 le := hj
 done := by
  have hi : i < cur.length := by have := h.len; have := h.lt; omega
  rw [List.take_set, ak hi, t_ _ _ (by rw [bf]; omega), bf, show i - min i cur.length = 0 from by omega, h.done, ak hj, kv];simp [hp]
 todo := by
  rw [List.drop_set_of_lt (by have := h.lt; omega), ← Jz, ← Jz, h.todo]
theorem Kept.all {α : Type} {p : α → Bool} {l cur : List α} {i : Nat} (h : Kept p l cur i l.length) : cur.take i = l.filter (fun x => !p x) := by rw [h.done, gp]
end
end Go.Proofs.YtdobbfjmlnlieaaGreat
