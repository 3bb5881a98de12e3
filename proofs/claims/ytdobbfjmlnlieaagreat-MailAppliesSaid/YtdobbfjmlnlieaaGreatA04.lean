/- IndexFunc and DeleteFunc at seats and letters, whatever the ; seqset; The work of a request, as things in memory; sweep, look, end -/
import Derived.Test.YtdobbfjmlnlieaaGreatA01
import Derived.Test.YtdobbfjmlnlieaaGreatA03
import Derived.Test.YtdobbfjmlnlieaaGreatA02
import Derived.Test.YtdobbfjmlnlieaaGreatChecked
import Derived.RangeFuncBox
import Derived.Laws.EntriesVeiled
import Derived.Lib.MinMax
import Derived.BigQuiet
import Derived.Deep.QuietTactic
namespace Go.Proofs.YtdobbfjmlnlieaaGreat
set_option linter.unusedSimpArgs false
namespace Tryz
end Tryz
open Go.Proofs.Tryz Go.Proofs.YtdobbfjmlnlieaaGreat.Tryz
section
open Go.RowKit
def R_ {α : Type} (R : RT α) (l : List α) (p : α → Bool) (L : List Th) (W0 : World) (f : FuncId) (caps : Array Value) (v : Value) : Prop :=
 ∀ x ∈ l, ∀ (W2 : World) (l2 : List α), Zoo W0 W2 (R.row v l2 :: L) → Calls prog f (#[.agg (R.enc x).toArray] ++ caps) W2 fun e w' => e = .returned (.bool (p x)) ∧ Hid (Below W2.heap.size W2 w')
set_option maxRecDepth 100000 in
set_option maxHeartbeats 4000000 in
theorem Vl {W0 W : World} {L : List Th} (v : Value) (l : List St) (p : St → Bool) (c0 : Value) (hlen : l.length ≤ 100000) (hz : Zoo W0 W (stT.row v l :: L)) (hs : R_ stT l p L W0 81 #[c0] v) :
  Calls prog 98 #[v, .func (.func 81) #[] #[c0]] W fun e w' => ∃ r : Int, e = .returned (.int .i64 r) ∧ Hid (r = ry p l) ∧ Hid (Below W.heap.size W w') := by
 obtain ⟨ao, cap, hv⟩ := (hz.own 0 rfl).len;subst hv;replace hz := hi_ hz;replace hs := hi_ hs;go_enter func98, ntmps98;go_wp2_with fail;go_loopw [8] (fun v8 wr => ∃ i : Nat, v8 = .int .i64 i ∧ i ≤ l.length ∧ Hid (∀ k (_ : k < i) (h2 : k < l.length), p l[k] = false) ∧ Hid (Below W.heap.size W wr)) (fun v8 _ => l.length - (intOf v8).toNat);case atStart => exact ⟨0, rfl, dw _, hi_ (fun k hk => by omega), hi_ (ae _ _)⟩
 case round =>
  obtain ⟨i, rfl, hi, hno, hb⟩ := hrel;by_cases hlt : i < l.length
  ·obtain ⟨g, cap', hv, -, -, hcells⟩ := ((hz.out.below hb.out).own 0 rfl).cells hlt;injection hv with hv1 hv2 hv3;subst hv1 hv3;obtain ⟨x, hx⟩ : ∃ x, l[i] = x := ⟨_, rfl⟩;have r0 : wr.cell? ⟨g, i * 5, none⟩ = some (.int .u64 x.session) := (by have := hcells 0 (by decide); rw [hx] at this; exact this);have r1 : wr.cell? ⟨g, i * 5 + 1, none⟩ = some (.int .u64 x.last) := (by have := hcells 1 (by decide); rw [hx] at this; exact this);have r2 : wr.cell? ⟨g, i * 5 + 2, none⟩ = some (.int .i64 x.node) := (by have := hcells 2 (by decide); rw [hx] at this; exact this);have r3 : wr.cell? ⟨g, i * 5 + 3, none⟩ = some (.int .u64 x.life) := (by have := hcells 3 (by decide); rw [hx] at this; exact this);have r4 : wr.cell? ⟨g, i * 5 + 4, none⟩ = some (.int .u64 x.ek) := (by have := hcells 4 (by decide); rw [hx] at this; exact this);have hcall := hs.out x (by rw [← hx]; exact bg hlt) wr l (hz.out.below hb.out);replace hcall : Calls prog 81 #[.agg #[.int .u64 x.session, .int .u64 x.last, .int .i64 x.node, .int .u64 x.life, .int .u64 x.ek], c0] wr fun e w' => e = .returned (.bool (p x)) ∧ Hid (Below wr.heap.size wr w') := hcall;have hl1 : (i : Int) < (l.length : Int) := (by omega);cases hq : p x with
   | true =>
    have hfound := hi_ (Bc hlt (by rw [hx]; exact hq) (fun k hk => hno.out k hk (by omega)) : ry p l = (i : Int));rw [hq] at hcall;replace hcall := hi_ hcall;replace hx := hi_ hx;clear hcells hq hno;go_wp2_with fail;refine hcall.out.mono ?_;rintro e w1 ⟨rfl, hb1⟩;have hB := hi_ (hb.out.trans (hb1.out.mono hb.out.size));clear hcall hb1;go_wp2_with fail;go_ret;exact ⟨_, rfl, hi_ hfound.out.symm, hB⟩
   | false =>
    have hno2 : Hid (∀ k (_ : k < i + 1) (h2 : k < l.length), p l[k] = false) := hi_ (fun k hk h2 => by
     by_cases e : k = i
     ·subst e; rw [hx]; exact hq
     exact hno.out k (by omega) h2)
    rw [hq] at hcall;replace hcall := hi_ hcall;replace hx := hi_ hx;clear hcells hq hno;go_wp2_with fail;refine hcall.out.mono ?_;rintro e w1 ⟨rfl, hb1⟩;have hB := hi_ (hb.out.trans (hb1.out.mono hb.out.size));clear hcall hb1;go_wp2_with fail;go_roundw;case rel => exact ⟨i + 1, by go_num, by omega, hno2, hB⟩
    case measure => simp [intOf] <;> omega
  have hnone := hi_ (Bd (fun k hk => hno.out k (by omega) hk) : ry p l = -1);have hl1 : (l.length : Int) ≤ (i : Int) := by omega
  go_wp2_with fail;go_ret;exact ⟨_, rfl, hi_ hnone.out.symm, hb⟩
set_option maxRecDepth 100000 in
set_option maxHeartbeats 8000000 in
theorem Yd {W0 W : World} {L : List Th} (v : Value) (l : List St) (p : St → Bool) (c0 : Value) (hlen : l.length ≤ 100000) (hz : Zoo W0 W (stT.row v l :: L)) (hs : R_ stT l p L W0 81 #[c0] v) :
  Calls prog 77 #[v, .func (.func 81) #[] #[c0]] W fun e w' => ∃ v', e = .returned v' ∧ Hid (Zoo W0 w' (stT.row v' (l.filter (fun x => !p x)) :: L)) := by
 have hfind := hi_ (Vl v l p c0 hlen hz hs);obtain ⟨ao, cap, hv⟩ := (hz.own 0 rfl).len;subst hv;replace hz := hi_ hz;replace hs := hi_ hs;go_enter func77, ntmps77;go_wp2_with fail;refine hfind.out.mono ?_;rintro e w1 ⟨r, rfl, hr, hb1⟩;have hz1 := hi_ (hz.out.below hb1.out);clear hfind hz hb1;rcases Jp p l with ⟨h1, h2⟩ | ⟨i0, hi0, h1, hp0, hno⟩
 ·have hrr : r = -1 := hr.out.trans h1;subst hrr;replace h2 := hi_ h2;clear h1 hr;go_wp2_with fail;go_ret;exact ⟨_, rfl, hi_ (by rw [h2.out]; exact hz1.out)⟩
 have hrr : r = (i0 : Int) := hr.out.trans h1;subst hrr;have hk0 := hi_ (Kept.start hi0 hp0 hno);clear h1 hr hp0 hno;have hne : ((i0 : Int) == -1) = false := by simp
 go_wp2_with fail;go_loopw [5, 6, 7] (fun v5 v6 _ wr => ∃ (i j : Nat) (cur : List St), v5 = .int .i64 i ∧ v6 = .int .i64 j ∧ i < j ∧ j ≤ l.length ∧ Hid (Kept p l cur i j) ∧ Hid (Zoo W0 wr (stT.row (.slice ao l.length cap) cur :: L))) (fun _ v6 _ _ => l.length - (intOf v6).toNat);case atStart => exact ⟨i0, i0 + 1, l, rfl, by go_num, by omega, by omega, hk0, hz1⟩
 case round =>
  clear hk0 hz1 hne;obtain ⟨i, j, cur, rfl, rfl, hij, hjl, hk, hz⟩ := hrel;by_cases hlt : j < l.length
  ·obtain ⟨g, cap', hv, -, hg, hcells⟩ := (hz.out.own 0 rfl).cells (j := j) (by rw [hk.out.len]; exact hlt);rw [hk.out.len] at hv;injection hv with hv1 hv2 hv3;subst hv1 hv3;obtain ⟨x, hx⟩ : ∃ x, l[j] = x := ⟨_, rfl⟩;have hget := hk.out.get hlt;rw [hx] at hget;have r0 : wr.cell? ⟨g, j * 5, none⟩ = some (.int .u64 x.session) := (by have := hcells 0 (by decide); rw [hget] at this; exact this);have r1 : wr.cell? ⟨g, j * 5 + 1, none⟩ = some (.int .u64 x.last) := (by have := hcells 1 (by decide); rw [hget] at this; exact this);have r2 : wr.cell? ⟨g, j * 5 + 2, none⟩ = some (.int .i64 x.node) := (by have := hcells 2 (by decide); rw [hget] at this; exact this);have r3 : wr.cell? ⟨g, j * 5 + 3, none⟩ = some (.int .u64 x.life) := (by have := hcells 3 (by decide); rw [hget] at this; exact this);have r4 : wr.cell? ⟨g, j * 5 + 4, none⟩ = some (.int .u64 x.ek) := (by have := hcells 4 (by decide); rw [hget] at this; exact this);have hzb := hz.out.dz [.int .u64 x.session, .int .u64 x.last, .int .i64 x.node, .int .u64 x.life, .int .u64 x.ek].toArray 69;have hcall := hs.out x (by rw [← hx]; exact bg hlt) _ cur hzb.tail;replace hcall : Calls prog 81 #[.agg #[.int .u64 x.session, .int .u64 x.last, .int .i64 x.node, .int .u64 x.life, .int .u64 x.ek], c0] (wr.alloc (.cells #[.int .u64 x.session, .int .u64 x.last, .int .i64 x.node, .int .u64 x.life, .int .u64 x.ek] 69)) fun e w' => e = .returned (.bool (p x)) ∧ Hid (Below (wr.alloc (.cells #[.int .u64 x.session, .int .u64 x.last, .int .i64 x.node, .int .u64 x.life, .int .u64 x.ek] 69)).heap.size (wr.alloc (.cells #[.int .u64 x.session, .int .u64 x.last, .int .i64 x.node, .int .u64 x.life, .int .u64 x.ek] 69)) w') := hcall;have hl1 : (j : Int) < (l.length : Int) := (by omega);replace hcall := hi_ hcall;replace hzb := hi_ hzb;replace hx := hi_ hx;replace hget := hi_ hget;clear hcells;go_wp2_with fail;refine hcall.out.mono ?_;rintro e w1 ⟨rfl, hb1⟩;have hz2 := hzb.out.below hb1.out;obtain ⟨hbx, -⟩ := hz2.box 0 rfl;generalize hB : wr.heap.size = B at hbx hz2 ⊢;obtain ⟨b0, b1, b2, b3, b4⟩ := bx5 hbx;have hkj := hk.out;cases hq : p x with
   | true =>
    have hk2 := hi_ (hkj.skip hlt (by rw [hx.out]; exact hq));have hz3 := hi_ hz2.tail;clear hcall hb1 hzb hz2 hbx hkj hq hk hz hB r0 r1 r2 r3 r4 hx hget;go_wp2_with fail;go_roundw;case rel => exact ⟨i, j + 1, cur, rfl, by go_num, by omega, by omega, hk2, hz3⟩
    case measure => simp [intOf] <;> omega
   | false =>
    have hk2 := hi_ (hkj.keep hlt (by rw [hx.out]; exact hq));rw [hx.out] at hk2;obtain ⟨g', cap', hv, -, hg2, hcl, hfr, hz3⟩ := hz2.Xp 1 rfl rfl i (by rw [hkj.len]; omega) x (.int .u64 x.session) (.int .u64 x.last) (.int .i64 x.node) (.int .u64 x.life) (.int .u64 x.ek) rfl;rw [hkj.len] at hv;injection hv with e1 e2 e3;injection e1 with e1;injection e1 with e1;subst e1 e3;have k0 := hcl 0 (by decide);have k1 := hcl 1 (by decide);have k2 := hcl 2 (by decide);have k3 := hcl 3 (by decide);have k4 := hcl 4 (by decide);generalize cur[i]'(by rw [hkj.len]; omega) = old at k0 k1 k2 k3 k4;obtain ⟨o0, o1, o2, o3, o4, ho⟩ : ∃ o0 o1 o2 o3 o4, (stT.enc old) = [o0, o1, o2, o3, o4] := ⟨_, _, _, _, _, rfl⟩;rw [ho] at k0 k1 k2 k3 k4;replace k0 : w1.cell? ⟨g, i * 5, none⟩ = some o0 := k0;replace k1 : w1.cell? ⟨g, i * 5 + 1, none⟩ = some o1 := k1;replace k2 : w1.cell? ⟨g, i * 5 + 2, none⟩ = some o2 := k2;replace k3 : w1.cell? ⟨g, i * 5 + 3, none⟩ = some o3 := k3;replace k4 : w1.cell? ⟨g, i * 5 + 4, none⟩ = some o4 := k4;have f0 := hfr (i * 5);have f1 := hfr (i * 5 + 1);have f2 := hfr (i * 5 + 2);have f3 := hfr (i * 5 + 3);have f4 := hfr (i * 5 + 4);replace hz3 := hi_ hz3.tail;have hil : (i : Int) < (l.length : Int) := (by omega);have hi2 : i < l.length := (by omega);clear hcall hb1 hzb hz2 hbx hkj hq hk hz hB r0 r1 r2 r3 r4 hx hget hcl hfr ho;go_wp2_with fail;go_roundw;case rel => exact ⟨i + 1, j + 1, _, by go_num, by go_num, by omega, by omega, hk2, hz3⟩
    case measure => simp [intOf] <;> omega
  obtain rfl : j = l.length := by omega
  have hl1 : (l.length : Int) ≤ (l.length : Int) := by omega
  obtain ⟨g, cap', hv, hcc, hcl, hz2⟩ := hz.out.clear 0 rfl (⟨0, 0, 0, 0, 0⟩ : St) rfl i (l.length - i) (by omega) (by have := hk.out.len; omega);rw [hk.out.len] at hv hcc;injection hv with e1 e2 e3;subst e1 e3;rw [show stT.K = 5 from rfl] at hz2 hcl;have hall := hk.out.all;replace hz2 : Hid (Zoo W0 (wr.setCells g (i * 5) (stT.cells (List.replicate (l.length - i) (⟨0, 0, 0, 0, 0⟩ : St)))) (stT.row (.slice (some ⟨g, 0, none⟩) i cap) (l.filter (fun x => !p x)) :: L)) := hi_ (by rw [← hall]; exact hz2);generalize wr.setCells g (i * 5) (stT.cells (List.replicate (l.length - i) (⟨0, 0, 0, 0, 0⟩ : St))) = wc at hcl hz2;have hcl2 : ∀ ty, (Builtin.clear_ #[25] ty #[.slice (some ⟨g, i * 5, none⟩) (l.length - i) (cap - i)]).run prog wr = .ok (.tuple #[]) wc := fun ty => hcl _ ty;have hic : i < l.length := hij;clear hk hz hall hcl;go_wp2_with fail;go_ret;exact ⟨_, rfl, hz2⟩
set_option maxRecDepth 100000 in
set_option maxHeartbeats 4000000 in
theorem Qt {W0 W : World} {L : List Th} (v : Value) (l : List St) (p : St → Bool) (c0 : Value) (hlen : l.length ≤ 100000) (hz : Zoo W0 W (stT.row v l :: L)) (hs : R_ stT l p L W0 79 #[c0] v) :
  Calls prog 98 #[v, .func (.func 79) #[] #[c0]] W fun e w' => ∃ r : Int, e = .returned (.int .i64 r) ∧ Hid (r = ry p l) ∧ Hid (Below W.heap.size W w') := by
 obtain ⟨ao, cap, hv⟩ := (hz.own 0 rfl).len;subst hv;replace hz := hi_ hz;replace hs := hi_ hs;go_enter func98, ntmps98;go_wp2_with fail;go_loopw [8] (fun v8 wr => ∃ i : Nat, v8 = .int .i64 i ∧ i ≤ l.length ∧ Hid (∀ k (_ : k < i) (h2 : k < l.length), p l[k] = false) ∧ Hid (Below W.heap.size W wr)) (fun v8 _ => l.length - (intOf v8).toNat);case atStart => exact ⟨0, rfl, dw _, hi_ (fun k hk => by omega), hi_ (ae _ _)⟩
 case round =>
  obtain ⟨i, rfl, hi, hno, hb⟩ := hrel;by_cases hlt : i < l.length
  ·obtain ⟨g, cap', hv, -, -, hcells⟩ := ((hz.out.below hb.out).own 0 rfl).cells hlt;injection hv with hv1 hv2 hv3;subst hv1 hv3;obtain ⟨x, hx⟩ : ∃ x, l[i] = x := ⟨_, rfl⟩;have r0 : wr.cell? ⟨g, i * 5, none⟩ = some (.int .u64 x.session) := (by have := hcells 0 (by decide); rw [hx] at this; exact this);have r1 : wr.cell? ⟨g, i * 5 + 1, none⟩ = some (.int .u64 x.last) := (by have := hcells 1 (by decide); rw [hx] at this; exact this);have r2 : wr.cell? ⟨g, i * 5 + 2, none⟩ = some (.int .i64 x.node) := (by have := hcells 2 (by decide); rw [hx] at this; exact this);have r3 : wr.cell? ⟨g, i * 5 + 3, none⟩ = some (.int .u64 x.life) := (by have := hcells 3 (by decide); rw [hx] at this; exact this);have r4 : wr.cell? ⟨g, i * 5 + 4, none⟩ = some (.int .u64 x.ek) := (by have := hcells 4 (by decide); rw [hx] at this; exact this);have hcall := hs.out x (by rw [← hx]; exact bg hlt) wr l (hz.out.below hb.out);replace hcall : Calls prog 79 #[.agg #[.int .u64 x.session, .int .u64 x.last, .int .i64 x.node, .int .u64 x.life, .int .u64 x.ek], c0] wr fun e w' => e = .returned (.bool (p x)) ∧ Hid (Below wr.heap.size wr w') := hcall;have hl1 : (i : Int) < (l.length : Int) := (by omega);cases hq : p x with
   | true =>
    have hfound := hi_ (Bc hlt (by rw [hx]; exact hq) (fun k hk => hno.out k hk (by omega)) : ry p l = (i : Int));rw [hq] at hcall;replace hcall := hi_ hcall;replace hx := hi_ hx;clear hcells hq hno;go_wp2_with fail;refine hcall.out.mono ?_;rintro e w1 ⟨rfl, hb1⟩;have hB := hi_ (hb.out.trans (hb1.out.mono hb.out.size));clear hcall hb1;go_wp2_with fail;go_ret;exact ⟨_, rfl, hi_ hfound.out.symm, hB⟩
   | false =>
    have hno2 : Hid (∀ k (_ : k < i + 1) (h2 : k < l.length), p l[k] = false) := hi_ (fun k hk h2 => by
     by_cases e : k = i
     ·subst e; rw [hx]; exact hq
     exact hno.out k (by omega) h2)
    rw [hq] at hcall;replace hcall := hi_ hcall;replace hx := hi_ hx;clear hcells hq hno;go_wp2_with fail;refine hcall.out.mono ?_;rintro e w1 ⟨rfl, hb1⟩;have hB := hi_ (hb.out.trans (hb1.out.mono hb.out.size));clear hcall hb1;go_wp2_with fail;go_roundw;case rel => exact ⟨i + 1, by go_num, by omega, hno2, hB⟩
    case measure => simp [intOf] <;> omega
  have hnone := hi_ (Bd (fun k hk => hno.out k (by omega) hk) : ry p l = -1);have hl1 : (l.length : Int) ≤ (i : Int) := by omega
  go_wp2_with fail;go_ret;exact ⟨_, rfl, hi_ hnone.out.symm, hb⟩
set_option maxRecDepth 100000 in
set_option maxHeartbeats 8000000 in
theorem Ta {W0 W : World} {L : List Th} (v : Value) (l : List St) (p : St → Bool) (c0 : Value) (hlen : l.length ≤ 100000) (hz : Zoo W0 W (stT.row v l :: L)) (hs : R_ stT l p L W0 79 #[c0] v) :
  Calls prog 77 #[v, .func (.func 79) #[] #[c0]] W fun e w' => ∃ v', e = .returned v' ∧ Hid (Zoo W0 w' (stT.row v' (l.filter (fun x => !p x)) :: L)) := by
 have hfind := hi_ (Qt v l p c0 hlen hz hs);obtain ⟨ao, cap, hv⟩ := (hz.own 0 rfl).len;subst hv;replace hz := hi_ hz;replace hs := hi_ hs;go_enter func77, ntmps77;go_wp2_with fail;refine hfind.out.mono ?_;rintro e w1 ⟨r, rfl, hr, hb1⟩;have hz1 := hi_ (hz.out.below hb1.out);clear hfind hz hb1;rcases Jp p l with ⟨h1, h2⟩ | ⟨i0, hi0, h1, hp0, hno⟩
 ·have hrr : r = -1 := hr.out.trans h1;subst hrr;replace h2 := hi_ h2;clear h1 hr;go_wp2_with fail;go_ret;exact ⟨_, rfl, hi_ (by rw [h2.out]; exact hz1.out)⟩
 have hrr : r = (i0 : Int) := hr.out.trans h1;subst hrr;have hk0 := hi_ (Kept.start hi0 hp0 hno);clear h1 hr hp0 hno;have hne : ((i0 : Int) == -1) = false := by simp
 go_wp2_with fail;go_loopw [5, 6, 7] (fun v5 v6 _ wr => ∃ (i j : Nat) (cur : List St), v5 = .int .i64 i ∧ v6 = .int .i64 j ∧ i < j ∧ j ≤ l.length ∧ Hid (Kept p l cur i j) ∧ Hid (Zoo W0 wr (stT.row (.slice ao l.length cap) cur :: L))) (fun _ v6 _ _ => l.length - (intOf v6).toNat);case atStart => exact ⟨i0, i0 + 1, l, rfl, by go_num, by omega, by omega, hk0, hz1⟩
 case round =>
  clear hk0 hz1 hne;obtain ⟨i, j, cur, rfl, rfl, hij, hjl, hk, hz⟩ := hrel;by_cases hlt : j < l.length
  ·obtain ⟨g, cap', hv, -, hg, hcells⟩ := (hz.out.own 0 rfl).cells (j := j) (by rw [hk.out.len]; exact hlt);rw [hk.out.len] at hv;injection hv with hv1 hv2 hv3;subst hv1 hv3;obtain ⟨x, hx⟩ : ∃ x, l[j] = x := ⟨_, rfl⟩;have hget := hk.out.get hlt;rw [hx] at hget;have r0 : wr.cell? ⟨g, j * 5, none⟩ = some (.int .u64 x.session) := (by have := hcells 0 (by decide); rw [hget] at this; exact this);have r1 : wr.cell? ⟨g, j * 5 + 1, none⟩ = some (.int .u64 x.last) := (by have := hcells 1 (by decide); rw [hget] at this; exact this);have r2 : wr.cell? ⟨g, j * 5 + 2, none⟩ = some (.int .i64 x.node) := (by have := hcells 2 (by decide); rw [hget] at this; exact this);have r3 : wr.cell? ⟨g, j * 5 + 3, none⟩ = some (.int .u64 x.life) := (by have := hcells 3 (by decide); rw [hget] at this; exact this);have r4 : wr.cell? ⟨g, j * 5 + 4, none⟩ = some (.int .u64 x.ek) := (by have := hcells 4 (by decide); rw [hget] at this; exact this);have hzb := hz.out.dz [.int .u64 x.session, .int .u64 x.last, .int .i64 x.node, .int .u64 x.life, .int .u64 x.ek].toArray 69;have hcall := hs.out x (by rw [← hx]; exact bg hlt) _ cur hzb.tail;replace hcall : Calls prog 79 #[.agg #[.int .u64 x.session, .int .u64 x.last, .int .i64 x.node, .int .u64 x.life, .int .u64 x.ek], c0] (wr.alloc (.cells #[.int .u64 x.session, .int .u64 x.last, .int .i64 x.node, .int .u64 x.life, .int .u64 x.ek] 69)) fun e w' => e = .returned (.bool (p x)) ∧ Hid (Below (wr.alloc (.cells #[.int .u64 x.session, .int .u64 x.last, .int .i64 x.node, .int .u64 x.life, .int .u64 x.ek] 69)).heap.size (wr.alloc (.cells #[.int .u64 x.session, .int .u64 x.last, .int .i64 x.node, .int .u64 x.life, .int .u64 x.ek] 69)) w') := hcall;have hl1 : (j : Int) < (l.length : Int) := (by omega);replace hcall := hi_ hcall;replace hzb := hi_ hzb;replace hx := hi_ hx;replace hget := hi_ hget;clear hcells;go_wp2_with fail;refine hcall.out.mono ?_;rintro e w1 ⟨rfl, hb1⟩;have hz2 := hzb.out.below hb1.out;obtain ⟨hbx, -⟩ := hz2.box 0 rfl;generalize hB : wr.heap.size = B at hbx hz2 ⊢;obtain ⟨b0, b1, b2, b3, b4⟩ := bx5 hbx;have hkj := hk.out;cases hq : p x with
   | true =>
    have hk2 := hi_ (hkj.skip hlt (by rw [hx.out]; exact hq));have hz3 := hi_ hz2.tail;clear hcall hb1 hzb hz2 hbx hkj hq hk hz hB r0 r1 r2 r3 r4 hx hget;go_wp2_with fail;go_roundw;case rel => exact ⟨i, j + 1, cur, rfl, by go_num, by omega, by omega, hk2, hz3⟩
    case measure => simp [intOf] <;> omega
   | false =>
    have hk2 := hi_ (hkj.keep hlt (by rw [hx.out]; exact hq));rw [hx.out] at hk2;obtain ⟨g', cap', hv, -, hg2, hcl, hfr, hz3⟩ := hz2.Xp 1 rfl rfl i (by rw [hkj.len]; omega) x (.int .u64 x.session) (.int .u64 x.last) (.int .i64 x.node) (.int .u64 x.life) (.int .u64 x.ek) rfl;rw [hkj.len] at hv;injection hv with e1 e2 e3;injection e1 with e1;injection e1 with e1;subst e1 e3;have k0 := hcl 0 (by decide);have k1 := hcl 1 (by decide);have k2 := hcl 2 (by decide);have k3 := hcl 3 (by decide);have k4 := hcl 4 (by decide);generalize cur[i]'(by rw [hkj.len]; omega) = old at k0 k1 k2 k3 k4;obtain ⟨o0, o1, o2, o3, o4, ho⟩ : ∃ o0 o1 o2 o3 o4, (stT.enc old) = [o0, o1, o2, o3, o4] := ⟨_, _, _, _, _, rfl⟩;rw [ho] at k0 k1 k2 k3 k4;replace k0 : w1.cell? ⟨g, i * 5, none⟩ = some o0 := k0;replace k1 : w1.cell? ⟨g, i * 5 + 1, none⟩ = some o1 := k1;replace k2 : w1.cell? ⟨g, i * 5 + 2, none⟩ = some o2 := k2;replace k3 : w1.cell? ⟨g, i * 5 + 3, none⟩ = some o3 := k3;replace k4 : w1.cell? ⟨g, i * 5 + 4, none⟩ = some o4 := k4;have f0 := hfr (i * 5);have f1 := hfr (i * 5 + 1);have f2 := hfr (i * 5 + 2);have f3 := hfr (i * 5 + 3);have f4 := hfr (i * 5 + 4);replace hz3 := hi_ hz3.tail;have hil : (i : Int) < (l.length : Int) := (by omega);have hi2 : i < l.length := (by omega);clear hcall hb1 hzb hz2 hbx hkj hq hk hz hB r0 r1 r2 r3 r4 hx hget hcl hfr ho;go_wp2_with fail;go_roundw;case rel => exact ⟨i + 1, j + 1, _, by go_num, by go_num, by omega, by omega, hk2, hz3⟩
    case measure => simp [intOf] <;> omega
  obtain rfl : j = l.length := by omega
  have hl1 : (l.length : Int) ≤ (l.length : Int) := by omega
  obtain ⟨g, cap', hv, hcc, hcl, hz2⟩ := hz.out.clear 0 rfl (⟨0, 0, 0, 0, 0⟩ : St) rfl i (l.length - i) (by omega) (by have := hk.out.len; omega);rw [hk.out.len] at hv hcc;injection hv with e1 e2 e3;subst e1 e3;rw [show stT.K = 5 from rfl] at hz2 hcl;have hall := hk.out.all;replace hz2 : Hid (Zoo W0 (wr.setCells g (i * 5) (stT.cells (List.replicate (l.length - i) (⟨0, 0, 0, 0, 0⟩ : St)))) (stT.row (.slice (some ⟨g, 0, none⟩) i cap) (l.filter (fun x => !p x)) :: L)) := hi_ (by rw [← hall]; exact hz2);generalize wr.setCells g (i * 5) (stT.cells (List.replicate (l.length - i) (⟨0, 0, 0, 0, 0⟩ : St))) = wc at hcl hz2;have hcl2 : ∀ ty, (Builtin.clear_ #[25] ty #[.slice (some ⟨g, i * 5, none⟩) (l.length - i) (cap - i)]).run prog wr = .ok (.tuple #[]) wc := fun ty => hcl _ ty;have hic : i < l.length := hij;clear hk hz hall hcl;go_wp2_with fail;go_ret;exact ⟨_, rfl, hz2⟩
set_option maxRecDepth 100000 in
set_option maxHeartbeats 4000000 in
theorem Tj {W0 W : World} {L : List Th} (v : Value) (l : List LtV) (p : LtV → Bool) (c0 c1 : Value) (hlen : l.length ≤ 100000) (hz : Zoo W0 W (ltT.row v l :: L)) (hs : R_ ltT l p L W0 93 #[c0, c1] v) :
  Calls prog 129 #[v, .func (.func 93) #[] #[c0, c1]] W fun e w' => ∃ r : Int, e = .returned (.int .i64 r) ∧ Hid (r = ry p l) ∧ Hid (Below W.heap.size W w') := by
 obtain ⟨ao, cap, hv⟩ := (hz.own 0 rfl).len;subst hv;replace hz := hi_ hz;replace hs := hi_ hs;go_enter func129, ntmps129;go_wp2_with fail;go_loopw [8] (fun v8 wr => ∃ i : Nat, v8 = .int .i64 i ∧ i ≤ l.length ∧ Hid (∀ k (_ : k < i) (h2 : k < l.length), p l[k] = false) ∧ Hid (Below W.heap.size W wr)) (fun v8 _ => l.length - (intOf v8).toNat);case atStart => exact ⟨0, rfl, dw _, hi_ (fun k hk => by omega), hi_ (ae _ _)⟩
 case round =>
  obtain ⟨i, rfl, hi, hno, hb⟩ := hrel;by_cases hlt : i < l.length
  ·obtain ⟨g, cap', hv, -, -, hcells⟩ := ((hz.out.below hb.out).own 0 rfl).cells hlt;injection hv with hv1 hv2 hv3;subst hv1 hv3;obtain ⟨x, hx⟩ : ∃ x, l[i] = x := ⟨_, rfl⟩;have r0 : wr.cell? ⟨g, i * 5, none⟩ = some (.int .u64 x.x.uid) := (by have := hcells 0 (by decide); rw [hx] at this; exact this);have r1 : wr.cell? ⟨g, i * 5 + 1, none⟩ = some (.slice x.a x.x.flags.length x.c) := (by have := hcells 1 (by decide); rw [hx] at this; exact this);have r2 : wr.cell? ⟨g, i * 5 + 2, none⟩ = some (.int .u64 x.x.mod) := (by have := hcells 2 (by decide); rw [hx] at this; exact this);have r3 : wr.cell? ⟨g, i * 5 + 3, none⟩ = some (.string x.x.hash) := (by have := hcells 3 (by decide); rw [hx] at this; exact this);have r4 : wr.cell? ⟨g, i * 5 + 4, none⟩ = some (.int .u64 x.x.size) := (by have := hcells 4 (by decide); rw [hx] at this; exact this);have hcall := hs.out x (by rw [← hx]; exact bg hlt) wr l (hz.out.below hb.out);replace hcall : Calls prog 93 #[.agg #[.int .u64 x.x.uid, .slice x.a x.x.flags.length x.c, .int .u64 x.x.mod, .string x.x.hash, .int .u64 x.x.size], c0, c1] wr fun e w' => e = .returned (.bool (p x)) ∧ Hid (Below wr.heap.size wr w') := hcall;have hl1 : (i : Int) < (l.length : Int) := (by omega);cases hq : p x with
   | true =>
    have hfound := hi_ (Bc hlt (by rw [hx]; exact hq) (fun k hk => hno.out k hk (by omega)) : ry p l = (i : Int));rw [hq] at hcall;replace hcall := hi_ hcall;replace hx := hi_ hx;clear hcells hq hno;go_wp2_with fail;refine hcall.out.mono ?_;rintro e w1 ⟨rfl, hb1⟩;have hB := hi_ (hb.out.trans (hb1.out.mono hb.out.size));clear hcall hb1;go_wp2_with fail;go_ret;exact ⟨_, rfl, hi_ hfound.out.symm, hB⟩
   | false =>
    have hno2 : Hid (∀ k (_ : k < i + 1) (h2 : k < l.length), p l[k] = false) := hi_ (fun k hk h2 => by
     by_cases e : k = i
     ·subst e; rw [hx]; exact hq
     exact hno.out k (by omega) h2)
    rw [hq] at hcall;replace hcall := hi_ hcall;replace hx := hi_ hx;clear hcells hq hno;go_wp2_with fail;refine hcall.out.mono ?_;rintro e w1 ⟨rfl, hb1⟩;have hB := hi_ (hb.out.trans (hb1.out.mono hb.out.size));clear hcall hb1;go_wp2_with fail;go_roundw;case rel => exact ⟨i + 1, by go_num, by omega, hno2, hB⟩
    case measure => simp [intOf] <;> omega
  have hnone := hi_ (Bd (fun k hk => hno.out k (by omega) hk) : ry p l = -1);have hl1 : (l.length : Int) ≤ (i : Int) := by omega
  go_wp2_with fail;go_ret;exact ⟨_, rfl, hi_ hnone.out.symm, hb⟩
set_option maxRecDepth 100000 in
set_option maxHeartbeats 8000000 in
theorem Vg {W0 W : World} {L : List Th} (v : Value) (l : List LtV) (p : LtV → Bool) (c0 c1 : Value) (hlen : l.length ≤ 100000) (hz : Zoo W0 W (ltT.row v l :: L)) (hs : R_ ltT l p L W0 93 #[c0, c1] v) :
  Calls prog 95 #[v, .func (.func 93) #[] #[c0, c1]] W fun e w' => ∃ v', e = .returned v' ∧ Hid (Zoo W0 w' (ltT.row v' (l.filter (fun x => !p x)) :: L)) := by
 have hfind := hi_ (Tj v l p c0 c1 hlen hz hs);obtain ⟨ao, cap, hv⟩ := (hz.own 0 rfl).len;subst hv;replace hz := hi_ hz;replace hs := hi_ hs;go_enter func95, ntmps95;go_wp2_with fail;refine hfind.out.mono ?_;rintro e w1 ⟨r, rfl, hr, hb1⟩;have hz1 := hi_ (hz.out.below hb1.out);clear hfind hz hb1;rcases Jp p l with ⟨h1, h2⟩ | ⟨i0, hi0, h1, hp0, hno⟩
 ·have hrr : r = -1 := hr.out.trans h1;subst hrr;replace h2 := hi_ h2;clear h1 hr;go_wp2_with fail;go_ret;exact ⟨_, rfl, hi_ (by rw [h2.out]; exact hz1.out)⟩
 have hrr : r = (i0 : Int) := hr.out.trans h1;subst hrr;have hk0 := hi_ (Kept.start hi0 hp0 hno);clear h1 hr hp0 hno;have hne : ((i0 : Int) == -1) = false := by simp
 go_wp2_with fail;go_loopw [5, 6, 7] (fun v5 v6 _ wr => ∃ (i j : Nat) (cur : List LtV), v5 = .int .i64 i ∧ v6 = .int .i64 j ∧ i < j ∧ j ≤ l.length ∧ Hid (Kept p l cur i j) ∧ Hid (Zoo W0 wr (ltT.row (.slice ao l.length cap) cur :: L))) (fun _ v6 _ _ => l.length - (intOf v6).toNat);case atStart => exact ⟨i0, i0 + 1, l, rfl, by go_num, by omega, by omega, hk0, hz1⟩
 case round =>
  clear hk0 hz1 hne;obtain ⟨i, j, cur, rfl, rfl, hij, hjl, hk, hz⟩ := hrel;by_cases hlt : j < l.length
  ·obtain ⟨g, cap', hv, -, hg, hcells⟩ := (hz.out.own 0 rfl).cells (j := j) (by rw [hk.out.len]; exact hlt);rw [hk.out.len] at hv;injection hv with hv1 hv2 hv3;subst hv1 hv3;obtain ⟨x, hx⟩ : ∃ x, l[j] = x := ⟨_, rfl⟩;have hget := hk.out.get hlt;rw [hx] at hget;have r0 : wr.cell? ⟨g, j * 5, none⟩ = some (.int .u64 x.x.uid) := (by have := hcells 0 (by decide); rw [hget] at this; exact this);have r1 : wr.cell? ⟨g, j * 5 + 1, none⟩ = some (.slice x.a x.x.flags.length x.c) := (by have := hcells 1 (by decide); rw [hget] at this; exact this);have r2 : wr.cell? ⟨g, j * 5 + 2, none⟩ = some (.int .u64 x.x.mod) := (by have := hcells 2 (by decide); rw [hget] at this; exact this);have r3 : wr.cell? ⟨g, j * 5 + 3, none⟩ = some (.string x.x.hash) := (by have := hcells 3 (by decide); rw [hget] at this; exact this);have r4 : wr.cell? ⟨g, j * 5 + 4, none⟩ = some (.int .u64 x.x.size) := (by have := hcells 4 (by decide); rw [hget] at this; exact this);have hzb := hz.out.dz [.int .u64 x.x.uid, .slice x.a x.x.flags.length x.c, .int .u64 x.x.mod, .string x.x.hash, .int .u64 x.x.size].toArray 50;have hcall := hs.out x (by rw [← hx]; exact bg hlt) _ cur hzb.tail;replace hcall : Calls prog 93 #[.agg #[.int .u64 x.x.uid, .slice x.a x.x.flags.length x.c, .int .u64 x.x.mod, .string x.x.hash, .int .u64 x.x.size], c0, c1] (wr.alloc (.cells #[.int .u64 x.x.uid, .slice x.a x.x.flags.length x.c, .int .u64 x.x.mod, .string x.x.hash, .int .u64 x.x.size] 50)) fun e w' => e = .returned (.bool (p x)) ∧ Hid (Below (wr.alloc (.cells #[.int .u64 x.x.uid, .slice x.a x.x.flags.length x.c, .int .u64 x.x.mod, .string x.x.hash, .int .u64 x.x.size] 50)).heap.size (wr.alloc (.cells #[.int .u64 x.x.uid, .slice x.a x.x.flags.length x.c, .int .u64 x.x.mod, .string x.x.hash, .int .u64 x.x.size] 50)) w') := hcall;have hl1 : (j : Int) < (l.length : Int) := (by omega);replace hcall := hi_ hcall;replace hzb := hi_ hzb;replace hx := hi_ hx;replace hget := hi_ hget;clear hcells;go_wp2_with fail;refine hcall.out.mono ?_;rintro e w1 ⟨rfl, hb1⟩;have hz2 := hzb.out.below hb1.out;obtain ⟨hbx, -⟩ := hz2.box 0 rfl;generalize hB : wr.heap.size = B at hbx hz2 ⊢;obtain ⟨b0, b1, b2, b3, b4⟩ := bx5 hbx;have hkj := hk.out;cases hq : p x with
   | true =>
    have hk2 := hi_ (hkj.skip hlt (by rw [hx.out]; exact hq));have hz3 := hi_ hz2.tail;clear hcall hb1 hzb hz2 hbx hkj hq hk hz hB r0 r1 r2 r3 r4 hx hget;go_wp2_with fail;go_roundw;case rel => exact ⟨i, j + 1, cur, rfl, by go_num, by omega, by omega, hk2, hz3⟩
    case measure => simp [intOf] <;> omega
   | false =>
    have hk2 := hi_ (hkj.keep hlt (by rw [hx.out]; exact hq));rw [hx.out] at hk2;obtain ⟨g', cap', hv, -, hg2, hcl, hfr, hz3⟩ := hz2.Xp 1 rfl rfl i (by rw [hkj.len]; omega) x (.int .u64 x.x.uid) (.slice x.a x.x.flags.length x.c) (.int .u64 x.x.mod) (.string x.x.hash) (.int .u64 x.x.size) rfl;rw [hkj.len] at hv;injection hv with e1 e2 e3;injection e1 with e1;injection e1 with e1;subst e1 e3;have k0 := hcl 0 (by decide);have k1 := hcl 1 (by decide);have k2 := hcl 2 (by decide);have k3 := hcl 3 (by decide);have k4 := hcl 4 (by decide);generalize cur[i]'(by rw [hkj.len]; omega) = old at k0 k1 k2 k3 k4;obtain ⟨o0, o1, o2, o3, o4, ho⟩ : ∃ o0 o1 o2 o3 o4, (ltT.enc old) = [o0, o1, o2, o3, o4] := ⟨_, _, _, _, _, rfl⟩;rw [ho] at k0 k1 k2 k3 k4;replace k0 : w1.cell? ⟨g, i * 5, none⟩ = some o0 := k0;replace k1 : w1.cell? ⟨g, i * 5 + 1, none⟩ = some o1 := k1;replace k2 : w1.cell? ⟨g, i * 5 + 2, none⟩ = some o2 := k2;replace k3 : w1.cell? ⟨g, i * 5 + 3, none⟩ = some o3 := k3;replace k4 : w1.cell? ⟨g, i * 5 + 4, none⟩ = some o4 := k4;have f0 := hfr (i * 5);have f1 := hfr (i * 5 + 1);have f2 := hfr (i * 5 + 2);have f3 := hfr (i * 5 + 3);have f4 := hfr (i * 5 + 4);replace hz3 := hi_ hz3.tail;have hil : (i : Int) < (l.length : Int) := (by omega);have hi2 : i < l.length := (by omega);clear hcall hb1 hzb hz2 hbx hkj hq hk hz hB r0 r1 r2 r3 r4 hx hget hcl hfr ho;go_wp2_with fail;go_roundw;case rel => exact ⟨i + 1, j + 1, _, by go_num, by go_num, by omega, by omega, hk2, hz3⟩
    case measure => simp [intOf] <;> omega
  obtain rfl : j = l.length := by omega
  have hl1 : (l.length : Int) ≤ (l.length : Int) := by omega
  obtain ⟨g, cap', hv, hcc, hcl, hz2⟩ := hz.out.clear 0 rfl (⟨⟨0, [], 0, ⟨#[]⟩, 0⟩, none, 0⟩ : LtV) rfl i (l.length - i) (by omega) (by have := hk.out.len; omega);rw [hk.out.len] at hv hcc;injection hv with e1 e2 e3;subst e1 e3;rw [show ltT.K = 5 from rfl] at hz2 hcl;have hall := hk.out.all;replace hz2 : Hid (Zoo W0 (wr.setCells g (i * 5) (ltT.cells (List.replicate (l.length - i) (⟨⟨0, [], 0, ⟨#[]⟩, 0⟩, none, 0⟩ : LtV)))) (ltT.row (.slice (some ⟨g, 0, none⟩) i cap) (l.filter (fun x => !p x)) :: L)) := hi_ (by rw [← hall]; exact hz2);generalize wr.setCells g (i * 5) (ltT.cells (List.replicate (l.length - i) (⟨⟨0, [], 0, ⟨#[]⟩, 0⟩, none, 0⟩ : LtV))) = wc at hcl hz2;have hcl2 : ∀ ty, (Builtin.clear_ #[46] ty #[.slice (some ⟨g, i * 5, none⟩) (l.length - i) (cap - i)]).run prog wr = .ok (.tuple #[]) wc := fun ty => hcl _ ty;have hic : i < l.length := hij;clear hk hz hall hcl;go_wp2_with fail;go_ret;exact ⟨_, rfl, hz2⟩
end
section
open Go.RowKit
theorem Bh {W W' : World} {B : Nat} {t : TypeId} {v : Value} (h : Boxed W B t v) (hb : Below W.heap.size W W') : Boxed W' B t v := (hb.block B h.lt).trans h
theorem y9 {W W' : World} {b : Nat} {o : Obj} (h : W.heap[b]? = some o) (hb : Below W.heap.size W W') : W'.heap[b]? = some o := (hb.block b (bv.1 h).1).trans h
theorem Lv (w : World) (C : Array Value) (t : TypeId) : (w.alloc (.cells C t)).heap[w.heap.size]? = some (.cells C t (0, 0)) := heap_alloc_new w _
abbrev Rng := Nat × Nat
def p_ (w : World) (B : Nat) (v : Value) (rs : List Rng) : Prop := ∃ ao cap, v = .slice ao rs.length cap ∧ (rs = [] ∨ ∃ b o, ao = some ⟨b, o, none⟩ ∧ b < B ∧ rs.length ≤ cap ∧ ∀ j, (h : j < rs.length) → w.cell? ⟨b, o + j * 2, none⟩ = some (.int .u64 rs[j].1) ∧ w.cell? ⟨b, o + j * 2 + 1, none⟩ = some (.int .u64 rs[j].2))
theorem p_.later {w w' : World} {B : Nat} {v : Value} {rs : List Rng} (h : p_ w B v rs) (hb : Below B w w') : p_ w' B v rs := by
  obtain ⟨ao, cap, hv, h | ⟨b, o, ha, hlt, hle, hc⟩⟩ := h
  · exact ⟨ao, cap, hv, .inl h⟩
  · exact ⟨ao, cap, hv, .inr ⟨b, o, ha, hlt, hle, fun j hj => ⟨(hb.cell (p := ⟨b, o + j * 2, none⟩) hlt).trans (hc j hj).1, (hb.cell (p := ⟨b, o + j * 2 + 1, none⟩) hlt).trans (hc j hj).2⟩⟩⟩
theorem p_.mono {w : World} {B B' : Nat} {v : Value} {rs : List Rng} (h : p_ w B v rs) (hb : B ≤ B') : p_ w B' v rs := by
  obtain ⟨ao, cap, hv, h | ⟨b, o, ha, hlt, hle, hc⟩⟩ := h
  · exact ⟨ao, cap, hv, .inl h⟩
  · exact ⟨ao, cap, hv, .inr ⟨b, o, ha, by omega, hle, hc⟩⟩
theorem p_.on {w w' : World} {v : Value} {rs : List Rng} (h : p_ w w.heap.size v rs) (hb : Below w.heap.size w w') : p_ w' w'.heap.size v rs := (h.later hb).mono hb.size
def Om (r : Rng) : List Value := [.int .u64 r.1, .int .u64 r.2]
def zz (rs : List Rng) : List Value := rs.flatMap Om
theorem Gu : ∀ (rs : List Rng), (zz rs).length = rs.length * 2
  | [] => rfl
  | k :: r => by
    have := Gu r;unfold zz at this ⊢;rw [ql, bz, this, qc];show 2 + _ = _;omega
theorem Db : ∀ (rs : List Rng) (j : Nat) (hj : j < rs.length) (r : Nat), r < 2 → (zz rs)[j * 2 + r]? = (Om rs[j])[r]?
  | k :: l, 0, _, r, hr => by
    unfold zz;rw [ql, ko (by show _ < 2; omega)];simp
  | k :: l, j + 1, hj, r, hr => by
    have := Db l j (by simpa using hj) r hr;unfold zz at this ⊢;rw [ql, lu (by show 2 ≤ _; omega), List.getElem_cons_succ, ← this];congr 1;show (j + 1) * 2 + r - 2 = _;omega
theorem Rd.ranges {w : World} {v : Value} {rs : List Rng} (h : Rd w v rs.length (zz rs)) : p_ w w.heap.size v rs := by
  obtain ⟨ao, cap, hv, h⟩ := h;refine ⟨ao, cap, hv, ?_⟩;rcases h with h | ⟨b, o, ha, hlt, hle, hc⟩
  · exact .inl (eu h)
  · refine .inr ⟨b, o, ha, hlt, hle, fun j hj => ?_⟩
    have g := fun r (hr : r < 2) u (hu : (Om rs[j])[r]? = some u) => hc (j * 2 + r) u (by rw [Db rs j hj r hr]; exact hu);exact ⟨g 0 (by decide) _ rfl, g 1 (by decide) _ rfl⟩
theorem p_.rd {w : World} {v : Value} {rs : List Rng} (h : p_ w w.heap.size v rs) : Rd w v rs.length (zz rs) := by
  obtain ⟨ao, cap, hv, h⟩ := h;refine ⟨ao, cap, hv, ?_⟩;rcases h with h | ⟨b, o, ha, hlt, hle, hc⟩
  · exact .inl (by rw [h]; rfl)
  · refine .inr ⟨b, o, ha, hlt, hle, fun i u hu => ?_⟩
    have hi : i < rs.length * 2 := by
      have := (jl.1 hu).1;rwa [Gu] at this
    obtain ⟨j, r, hr, rfl⟩ : ∃ j r, r < 2 ∧ i = j * 2 + r := ⟨i / 2, i % 2, Gs _ (by decide), by omega⟩;have hj : j < rs.length := (by omega);rw [Db rs j hj r hr] at hu;obtain ⟨h0, h1⟩ := hc j hj;match r, hr with
    | 0, _ => rw [← jc hu]; exact h0
    | 1, _ => rw [← jc hu]; exact h1
def Er (most k : Int) : Int := if k = 0 then most else k
def Eb (most n : Nat) (r : Nat × Nat) : Bool := decide (min (Er most r.1) (Er most r.2) ≤ (n : Int)) && decide ((n : Int) ≤ max (Er most r.1) (Er most r.2))
def Dn (rs : List (Nat × Nat)) (most n : Nat) : Bool := rs.any (Eb most n)
structure Jw (W : World) (M N C : Nat) (most n : Nat) : Prop where
  bm : Boxed W M 23 (.int .u64 most)
  bn : Boxed W N 23 (.int .u64 n)
  bc : Boxed W C 166 (.func (.func 154) #[] #[.pointer (some ⟨M, 0, none⟩)])
theorem Jw.later {W W' : World} {M N C most n : Nat} (h : Jw W M N C most n) (hb : Below W.heap.size W W') : Jw W' M N C most n := ⟨Bh h.bm hb, Bh h.bn hb, Bh h.bc hb⟩
set_option maxHeartbeats 1000000 in
theorem Ut (k : Int) (M most : Nat) (w : World) (hM : Boxed w M 23 (.int .u64 most)) :
    Calls prog 154 #[.int .u64 k, .pointer (some ⟨M, 0, none⟩)] w fun e w' => e = .returned (.int .u64 (Er most k)) ∧ w' = w := by
  have cM := hM.cell;by_cases h : k = 0
  · have hr : Er most k = most := dh h
    rw [hr];have h0 : (k == 0) = true := (by rw [h]; rfl);clear hr hM;go_enter func154, ntmps154;go_wp2_with fail;go_ret;exact ⟨rfl, rfl⟩
  · have hr : Er most k = k := bq h
    rw [hr];have h0 : (k == 0) = false := cz.2 h;clear hr hM cM;go_enter func154, ntmps154;go_wp2_with fail;go_ret;exact ⟨rfl, rfl⟩
set_option maxRecDepth 100000 in
set_option maxHeartbeats 2000000 in
theorem Xz (r : Nat × Nat) (M N C most n : Nat) (w : World) (hM : Jw w M N C most n) :
    Calls prog 156 #[.agg #[.int .u64 r.1, .int .u64 r.2], .pointer (some ⟨C, 0, none⟩), .pointer (some ⟨N, 0, none⟩)] w fun e w' => e = .returned (.bool (Eb most n r)) ∧ Hid (Below w.heap.size w w') := by
  obtain ⟨f, t⟩ := r;dsimp only;have hb := (ae _ w).alloc (ax _) (.cells #[.int .u64 f, .int .u64 t] 129);have hM1 := hM.later hb;have hf := hi_ (fun n => Ut f M most ((w.alloc (.cells #[.int .u64 f, .int .u64 t] 129)).drewN n) hM1.bm);have ht := hi_ (fun n => Ut t M most ((w.alloc (.cells #[.int .u64 f, .int .u64 t] 129)).drewN n) hM1.bm);have cN := hM1.bn.cell;have cC := hM1.bc.cell;have hv : Hid (Eb most n (f, t) = (decide (min (Er most f) (Er most t) ≤ (n : Int)) && decide ((n : Int) ≤ max (Er most f) (Er most t)))) := hi_ rfl;replace hb := hi_ hb;clear hM hM1;generalize Er most f = a at hf hv;generalize Er most t = b at ht hv;by_cases h1 : min a b ≤ (n : Int)
  · rw [b_ h1, Bool.true_and] at hv
    go_enter func156, ntmps156;go_wp2_with fail;go_quiet ((go_at_call 154; first | exact Calls.quiet_of_same (hf.out _) | exact Calls.quiet_of_same (ht.out _)));go_wp2_with fail;all_goals
      go_ret;exact ⟨by rw [hv.out]; first | rfl | exact mo (by first | rw [Int.max_eq_left (by omega)] | rw [Int.max_eq_right (by omega)]), hi_ (qw hb.out _)⟩
  · rw [aj h1, Bool.false_and] at hv
    go_enter func156, ntmps156;go_wp2_with fail;go_quiet ((go_at_call 154; first | exact Calls.quiet_of_same (hf.out _) | exact Calls.quiet_of_same (ht.out _)));go_wp2_with fail;all_goals
      go_ret;exact ⟨by rw [hv.out]; first | rfl | exact mo (by first | rw [Int.max_eq_left (by omega)] | rw [Int.max_eq_right (by omega)]), hi_ (qw hb.out _)⟩
set_option maxRecDepth 100000 in
set_option maxHeartbeats 2000000 in
theorem X_ (rs : List (Nat × Nat)) (v : Value) (M N C most n : Nat) (w : World) (hl : rs.length ≤ 9223372036854775807) (hM : Jw w M N C most n) (hk : p_ w w.heap.size v rs) :
    Calls prog 179 #[v, .func (.func 156) #[] #[.pointer (some ⟨C, 0, none⟩), .pointer (some ⟨N, 0, none⟩)]] w fun e w' => ∃ r : Int, e = .returned (.int .i64 r) ∧ Hid (decide (0 ≤ r) = Dn rs most n) ∧ Hid (Below w.heap.size w w') := by
  have hk0 := hi_ hk;have hwa := hi_ Xz;obtain ⟨ao, cap, rfl, _⟩ := hk;replace hM := hi_ hM;go_enter func179, ntmps179;go_wp2_with fail;go_loopw [8] (fun v8 wr => ∃ q : Nat, v8 = .int .i64 q ∧ q ≤ rs.length ∧ Hid ((rs.take q).any (Eb most n) = false) ∧ Hid (Below w.heap.size w wr)) (fun v8 _ => rs.length - (intOf v8).toNat);case atStart => exact ⟨0, rfl, dw _, hi_ rfl, hi_ (ae _ _)⟩
  case round =>
    obtain ⟨q, rfl, hq, hno, hb⟩ := hrel;by_cases hlt : q < rs.length
    · obtain ⟨ao', cap', hv, hk | ⟨b, o, hao, hbB, hcap, hcells⟩⟩ := hk0.out.later hb.out
      · rw [hk] at hlt; simp at hlt
      · cases hv
        subst hao;have hc := hcells q hlt;have hstep : (rs.take (q + 1)).any (Eb most n) = Eb most n rs[q] := (by rw [ak hlt, zt, hno.out]; simp);have hyes : Eb most n rs[q] = true → rs.any (Eb most n) = true := fun h => Gt.2 ⟨_, bg hlt, h⟩;have hcall := hi_ (hwa.out rs[q] M N C most n wr (hM.out.later hb.out));generalize rs[q] = k at hc hstep hyes hcall;obtain ⟨c0, c1⟩ := hc;clear hcells;cases hB : Eb most n k
        · rw [hB] at hcall hstep
          replace hstep := hi_ hstep;replace hyes := hi_ hyes;replace hB := hi_ hB;go_wp2_with fail;refine hcall.out.mono ?_;rintro e w3 ⟨rfl, hb3⟩;have hb4 := hi_ (hb.out.trans (hb3.out.mono hb.out.size));clear hcall hb3 c0 c1;go_wp2_with fail;go_roundw;case rel => exact ⟨q + 1, by go_num, by omega, hstep, hb4⟩
          case measure => simp [intOf] <;> omega
        · rw [hB] at hcall
          have hyy := hi_ (hyes hB);replace hB := hi_ hB;clear hstep hyes;go_wp2_with fail;refine hcall.out.mono ?_;rintro e w3 ⟨rfl, hb3⟩;have hb4 := hi_ (hb.out.trans (hb3.out.mono hb.out.size));clear hcall hb3 c0 c1;go_wp2_with fail;go_ret;exact ⟨q, rfl, hi_ (by rw [Dn, hyy.out]; exact b_ (by omega)), hb4⟩
    · obtain rfl : q = rs.length := by omega
      rw [gp] at hno;go_wp2_with fail;go_ret;exact ⟨-1, rfl, hi_ (by rw [Dn, hno.out]; rfl), hb⟩
set_option maxHeartbeats 2000000 in
theorem Xi (rs : List (Nat × Nat)) (v : Value) (most n : Nat) (w : World) (hl : rs.length ≤ 9223372036854775807) (hk : p_ w w.heap.size v rs) :
    Calls prog 124 #[v, .int .u64 most, .int .u64 n] w fun e w' => e = .returned (.bool (Dn rs most n)) ∧ Below w.heap.size w w' := by
  have hc : Hid (∀ (M N C : Nat) (W : World), Jw W M N C most n → p_ W W.heap.size v rs → Calls prog 155 #[v, .func (.func 156) #[] #[.pointer (some ⟨C, 0, none⟩), .pointer (some ⟨N, 0, none⟩)]] W fun e w' => e = .returned (.bool (Dn rs most n)) ∧ Hid (Below W.heap.size W w')) := hi_ (fun M N C W hM hk => by
    have hi := hi_ (X_ rs v M N C most n W hl hM hk);obtain ⟨ao, cap, rfl, _⟩ := hk;clear hM;go_enter func155, ntmps155;go_wp2_with fail;refine hi.out.mono ?_;rintro e w1 ⟨r, rfl, hr, hb⟩;go_wp2_with fail;go_ret;exact ⟨by rw [← hr.out]; rfl, hb⟩)
  have hk0 := hi_ hk;obtain ⟨ao, cap, rfl, _⟩ := hk;obtain ⟨W1, hW1⟩ : ∃ W1, W1 = w.alloc (.cells #[.int .u64 most] 23) := ⟨_, rfl⟩;obtain ⟨W2, hW2⟩ : ∃ W2, W2 = W1.alloc (.cells #[.int .u64 n] 23) := ⟨_, rfl⟩;obtain ⟨W3, hW3⟩ : ∃ W3, W3 = W2.alloc (.cells #[.func (.func 154) #[] #[.pointer (some ⟨w.heap.size, 0, none⟩)]] 166) := ⟨_, rfl⟩;have s1 : W1.heap.size = w.heap.size + 1 := by rw [hW1]; simp
  have s2 : W2.heap.size = w.heap.size + 1 + 1 := by rw [hW2]; simp [s1]
  have m1 : Boxed W1 w.heap.size 23 (.int .u64 most) := by rw [hW1]; exact Lv w _ _
  have m2 : Boxed W2 (w.heap.size + 1) 23 (.int .u64 n) := by rw [hW2, ← s1]; exact Lv W1 _ _
  have m3 : Boxed W3 (w.heap.size + 1 + 1) 166 (.func (.func 154) #[] #[.pointer (some ⟨w.heap.size, 0, none⟩)]) := by rw [hW3, ← s2]; exact Lv W2 _ _
  have b1 : Below w.heap.size w W1 := by rw [hW1]; exact (ae _ w).alloc (ax _) _
  have b2 : Below W1.heap.size W1 W2 := by rw [hW2]; exact (ae _ W1).alloc (ax _) _
  have b3 : Below W2.heap.size W2 W3 := by rw [hW3]; exact (ae _ W2).alloc (ax _) _
  have bw : Below w.heap.size w W3 := (b1.trans (b2.mono b1.size)).trans (b3.mono (ed b1.size b2.size));have hM3 : Jw W3 w.heap.size (w.heap.size + 1) (w.heap.size + 1 + 1) most n := ⟨Bh (Bh m1 b2) b3, Bh m2 b3, m3⟩;have hk3 : p_ W3 W3.heap.size (.slice ao rs.length cap) rs := by
    obtain ⟨ao', cap', hv, h | ⟨b, o, ha, hlt, hle, hc⟩⟩ := hk0.out.later bw
    · exact ⟨ao', cap', hv, .inl h⟩
    · exact ⟨ao', cap', hv, .inr ⟨b, o, ha, gy hlt bw.size, hle, hc⟩⟩
  have hcall := hc.out _ _ _ W3 hM3 hk3;rw [hW3, hW2, hW1] at hcall bw;replace hcall := hi_ hcall;replace bw := hi_ bw;clear hc hk0 hM3 hk3 m1 m2 m3 b1 b2 b3 s1 s2 hW3 hW2 hW1;go_enter func124, ntmps124;go_wp2_with fail;refine hcall.out.mono ?_;rintro e w1 ⟨rfl, hb⟩;have hb9 := hi_ (bw.out.trans (hb.out.mono bw.out.size));clear hb bw hcall;go_wp2_with fail;go_ret;exact ⟨rfl, hb9.out⟩
def Es (most n : Nat) (r : Rng) : Bool :=
  let a := if r.1 = 0 then most else r.1
  let b := if r.2 = 0 then most else r.2
  (decide (a ≤ n) && decide (n ≤ b)) || (decide (b ≤ n) && decide (n ≤ a))
theorem dj_ (most n : Nat) (r : Rng) : Es most n r = Eb most n r := by
  obtain ⟨f, t⟩ := r;unfold Es Eb Er;dsimp only;by_cases hf : f = 0 <;> by_cases ht : t = 0
  all_goals (
    simp only [hf, ht, if_true, if_false, Int.natCast_eq_zero];rw [Qe];simp only [Bool.or_eq_true, qd, decide_eq_true_eq];omega)
theorem dn_ (rs : List Rng) (most n : Nat) : rs.any (Es most n) = Dn rs most n := by
  unfold Dn;congr 1;funext r;exact dj_ most n r
theorem dk_ (most n f t a b : Nat) (ha : a = if f = 0 then most else f) (hb : b = if t = 0 then most else t) : Es most n (f, t) = ((decide (a ≤ n) && decide (n ≤ b)) || (decide (b ≤ n) && decide (n ≤ a))) := by
  unfold Es;dsimp only;rw [← ha, ← hb]
set_option maxRecDepth 100000 in
set_option maxHeartbeats 8000000 in
theorem Qj (rs : List Rng) (v : Value) (most n : Nat) (w : World) (hl : rs.length ≤ 9223372036854775807) (hk : p_ w w.heap.size v rs) :
    Calls prog 65 #[v, .int .u64 most, .int .u64 n] w fun e w' => e = .returned (.bool (Dn rs most n)) ∧ Below w.heap.size w w' := by
  have hk0 := hi_ hk;obtain ⟨ao, cap, rfl, _⟩ := hk;have hr := hi_ (dn_ rs most n);go_enter func65, ntmps65;go_wp2_with fail;go_loopw [7] (fun v7 wr => ∃ q : Nat, v7 = .int .i64 q ∧ q ≤ rs.length ∧ Hid ((rs.take q).any (Es most n) = false) ∧ Hid (Below w.heap.size w wr)) (fun v7 _ => rs.length - (intOf v7).toNat);case atStart => exact ⟨0, rfl, dw _, hi_ rfl, hi_ (ae _ _)⟩
  case round =>
    obtain ⟨q, rfl, hq, hno, hb⟩ := hrel;by_cases hlt : q < rs.length
    · obtain ⟨ao', cap', hv, hk | ⟨b, o, hao, hbB, hcap, hcells⟩⟩ := hk0.out.later hb.out
      · rw [hk] at hlt; simp at hlt
      · cases hv
        subst hao;have hc := hcells q hlt;have hstep : (rs.take (q + 1)).any (Es most n) = Es most n rs[q] := (by rw [ak hlt, zt, hno.out]; simp);have hyes : Es most n rs[q] = true → Dn rs most n = true := fun h => (by rw [← hr.out]; exact Gt.2 ⟨_, bg hlt, h⟩);generalize rs[q] = k at hc hstep hyes;obtain ⟨f, t⟩ := k;obtain ⟨c0, c1⟩ := hc;dsimp only at c0 c1;clear hcells;obtain ⟨x, hx⟩ : ∃ x, x = if f = 0 then most else f := ⟨_, rfl⟩;obtain ⟨y, hy⟩ : ∃ y, y = if t = 0 then most else t := ⟨_, rfl⟩;have hin := dk_ most n f t x y hx hy;have hbW := hi_ (fun m => qw hb.out m);have hi0 : (0 : Int) ≤ (q : Int) := (by omega);have hi1 : (q : Int) < (rs.length : Int) := (by omega);have key : (Es most n (f, t) = true ∧ (decide (x ≤ n) = true ∧ decide (n ≤ y) = true)) ∨ (Es most n (f, t) = true ∧ (decide (x ≤ n) = true ∧ decide (n ≤ y) = false ∧ decide (y ≤ n) = true ∧ decide (n ≤ x) = true)) ∨
            (Es most n (f, t) = false ∧ (decide (x ≤ n) = true ∧ decide (n ≤ y) = false ∧ decide (y ≤ n) = true ∧ decide (n ≤ x) = false)) ∨ (Es most n (f, t) = true ∧ (decide (x ≤ n) = false ∧ decide (y ≤ n) = true ∧ decide (n ≤ x) = true)) ∨
            (Es most n (f, t) = false ∧ (decide (x ≤ n) = false ∧ decide (y ≤ n) = false)) := by
          rw [hin];by_cases h1 : x ≤ n <;> by_cases h2 : n ≤ y <;> by_cases h3 : y ≤ n <;> by_cases h4 : n ≤ x <;> simp [h1, h2, h3, h4] <;> omega
        clear hin;rcases key with ⟨hI, t1, t2⟩ | ⟨hI, t1, t2, t3, t4⟩ | ⟨hI, t1, t2, t3, t4⟩ | ⟨hI, t1, t3, t4⟩ | ⟨hI, t1, t3⟩;all_goals (
          rw [hI] at hstep;replace hstep := hi_ hstep;first
          | replace hyes := hi_ (hyes hI)
          | clear hyes
          clear hI;by_cases hf : f = 0 <;> by_cases ht : t = 0
          all_goals (
            first | rw [dh hf] at hx | rw [bq hf] at hx
            first | rw [dh ht] at hy | rw [bq ht] at hy
            subst x;subst y;have qf : ((f : Int) == 0) = decide (f = 0) := by
              by_cases h : f = 0
              · rw [b_ h]; exact beq_iff_eq.2 (by omega)
              · rw [aj h]; exact cz.2 (by omega)
            have qt : ((t : Int) == 0) = decide (t = 0) := by
              by_cases h : t = 0
              · rw [b_ h]; exact beq_iff_eq.2 (by omega)
              · rw [aj h]; exact cz.2 (by omega)
            first | rw [b_ hf] at qf | rw [aj hf] at qf
            first | rw [b_ ht] at qt | rw [aj ht] at qt
            replace hf := hi_ hf;replace ht := hi_ ht;go_wp2_with fail;go_quiet (fail);go_wp2_with fail;first
            | (go_ret
               exact ⟨by rw [hyes.out]; rfl, hbW.out _⟩)
            | (go_roundw
               case rel => exact ⟨q + 1, by go_num, by omega, hstep, hi_ (hbW.out _)⟩
               case measure => simp [intOf] <;> omega)
            | (exfalso
               rw [t1] at t3;cases t3)))
    · obtain rfl : q = rs.length := by omega
      rw [gp] at hno;go_wp2_with fail;go_ret;exact ⟨by rw [← hr.out, hno.out]; rfl, hb.out⟩
end
section
open Go.RowKit
attribute [local go_sem ↓] Go.wp_at_zero Go.wp_at_succ
structure Rq where
  op : Int
  session : Nat
  number : Nat
  node : Int
  life : Nat
  ek : Nat
  box : ByteArray
  to_ : ByteArray
  ag : Nat
  h_ : List (Nat × Nat)
  flags : List (List UInt8)
  how : Int
  has : Bool
  since : Nat
  hash : ByteArray
  size : Nat
  a_ : Nat
structure Oc where
  code : Int
  session : Nat
  ag : Nat
  h_ : List Nat
  vw : List Nat
def oc0 : Oc := ⟨0, 0, 0, [], []⟩
def ky : RT Nat where
  enc := fun n => [.int .u64 n]
  K := 1
  t := 23
  ts := 33
  z := .int .u64 0
  bytes := 8
  len := fun _ => rfl
  one := fun x u hu => by simp at hu; subst hu; rfl
  pos := by decide
  und := underlying33
  info := by kernel_rfl
  zs := rfl
  bb := by decide
structure RqV where
  au : Option Addr
  cu : Nat
  af : Option Addr
  cf : Nat
def fq (q : Rq) (y : RqV) : List Value := [.int .i64 q.op, .int .u64 q.session, .int .u64 q.number, .int .i64 q.node, .int .u64 q.life, .int .u64 q.ek, .string q.box, .string q.to_, .int .u64 q.ag, .slice y.au q.h_.length y.cu, .slice y.af q.flags.length y.cf, .int .i64 q.how, .bool q.has, .int .u64 q.since, .string q.hash, .int .u64 q.size, .int .u64 q.a_]
def Ac (W : World) (q : Rq) (y : RqV) : Prop := p_ W W.heap.size (.slice y.au q.h_.length y.cu) q.h_ ∧ Cq W (.slice y.af q.flags.length y.cf) q.flags
theorem Ac.below {W W' : World} {q : Rq} {y : RqV} (h : Ac W q y) (hb : Below W.heap.size W W') : Ac W' q y := ⟨h.1.on hb, jf h.2 hb⟩
structure WkV where
  ab : Option Addr
  cb : Nat
  ah : Option Addr
  ch : Nat
  as_ : Option Addr
  cs : Nat
  aU : Option Addr
  cU : Nat
  aM : Option Addr
  cM : Nat
  bs : List BxV
  S : List (Value × List (List UInt8))
def l9 (k : WkV) (m : Ml) (q : Rq) (y : RqV) (o : Oc) : List Value :=
  [.slice k.ab k.bs.length k.cb, .int .u64 m.nv, .slice k.ah m.homes.length k.ch, .slice k.as_ m.seats.length k.cs, .int .u64 m.ns, .int .u64 m.a_,
   .int .i64 q.op, .int .u64 q.session, .int .u64 q.number, .int .i64 q.node, .int .u64 q.life, .int .u64 q.ek, .string q.box, .string q.to_, .int .u64 q.ag, .slice y.au q.h_.length y.cu, .slice y.af q.flags.length y.cf, .int .i64 q.how, .bool q.has, .int .u64 q.since, .string q.hash, .int .u64 q.size, .int .u64 q.a_,
   .int .i64 o.code, .int .u64 o.session, .int .u64 o.ag, .slice k.aU o.h_.length k.cU, .slice k.aM o.vw.length k.cM]
def ik (wb : Nat) (k : WkV) (m : Ml) (q : Rq) (y : RqV) (o : Oc) : List Th :=
  df wb (l9 k m q y o).toArray 80 :: ky.row (.slice k.aU o.h_.length k.cU) o.h_ :: ky.row (.slice k.aM o.vw.length k.cM) o.vw :: zk (.slice k.ab k.bs.length k.cb) (.slice k.ah m.homes.length k.ch) (.slice k.as_ m.seats.length k.cs) k.bs m.homes m.seats k.S
def wm (k : WkV) (m : Ml) : Prop := k.bs.map BxV.b = m.boxes ∧ Pz k.S k.bs
def mr (W0 : World) (wb : Nat) (q : Rq) (y : RqV) (res : Int × Ml × Oc) (e : Ending) (w' : World) : Prop := ∃ k, e = .returned (.int .i64 res.1) ∧ Hid (wm k res.2.1) ∧ Hid (Zoo W0 w' (ik wb k res.2.1 q y res.2.2))
theorem mr.of {W0 : World} {wb : Nat} {q : Rq} {y : RqV} {res res' : Int × Ml × Oc} {e : Ending} {w' : World} (h : res = res') (h2 : mr W0 wb q y res' e w') : mr W0 wb q y res e w' := h ▸ h2
section
variable {W0 W : World} {L : List Th}
theorem Jq {α : Type} : ∀ (L : List α) (i : Nat) (hi : i < L.length), L.Perm (L[i] :: L.eraseIdx i)
  | _ :: _, 0, _ => List.Perm.refl _
  | x :: L, i + 1, hi => ((Jq L i (by simpa using hi)).cons x).trans (List.Perm.swap _ _ _)
theorem Zoo.front {a : Th} (h : Zoo W0 W L) (i : Nat) (hi : L[i]? = some a) : Zoo W0 W (a :: L.eraseIdx i) := by
  obtain ⟨hl, rfl⟩ := jl.1 hi;exact h.perm (Jq L i hl)
theorem Zoo.back {b : Th} (i : Nat) (hi : i < L.length) (h : Zoo W0 W (b :: L.eraseIdx i)) : Zoo W0 W (L.set i b) := by
  refine h.perm ?_;have := Jq (L.set i b) i (by rw [gq]; exact hi);rw [Cc, List.eraseIdx_set_eq] at this;exact this.symm
end
def df_ (m : Ml) (_ : Rq) (o : Oc) : Int × Ml × Oc := (0, m, o)
def Jk (m : Ml) (_ : Rq) (o : Oc) : Int × Ml × Oc := if m.a_ = 9223372036854775807 then (13, m, o) else (0, { m with a_ := m.a_ + 1 }, o)
def bi_ (m : Ml) (q : Rq) (o : Oc) : Int × Ml × Oc := (0, { m with seats := m.seats.filter (fun x => !(x.session == q.session)) }, o)
theorem de_ {W0 W : World} {wb : Nat} {k : WkV} {m : Ml} {q : Rq} {y : RqV} {o : Oc} (hz : Zoo W0 W (ik wb k m q y o)) (hk : wm k m) :
    Calls prog 36 #[.pointer (some ⟨wb, 0, none⟩)] W (mr W0 wb q y (df_ m q o)) := by
  replace hz := hi_ hz;replace hk := hi_ hk;go_enter func36, ntmps36;go_wp2_with fail;go_ret;exact ⟨k, rfl, hk, hz⟩
set_option maxHeartbeats 4000000 in
theorem Zw {W0 W : World} {wb : Nat} {k : WkV} {m : Ml} {q : Rq} {y : RqV} {o : Oc} (hz : Zoo W0 W (ik wb k m q y o)) (hk : wm k m) (hsw : m.a_ ≤ 9223372036854775807) :
    Calls prog 43 #[.pointer (some ⟨wb, 0, none⟩)] W (mr W0 wb q y (Jk m q o)) := by
  obtain ⟨hbx, -⟩ := hz.box 0 rfl;have k5 : W.cell? ⟨wb, 5, none⟩ = some (.int .u64 m.a_) := bc_ hbx 5;have f5 := bf_ hbx 5;unfold Jk;by_cases he : m.a_ = 9223372036854775807
  · rw [dh he]
    replace hz := hi_ hz;replace hk := hi_ hk;rw [he] at k5;replace he := hi_ he;clear hbx hsw;go_enter func43, ntmps43;go_wp2_with fail;go_ret;exact ⟨k, rfl, hk, hz⟩
  · rw [bq he]
    have hz2 := hi_ (hz.il 0 rfl 5 (.int .u64 ((m.a_ + 1 : Nat) : Int)));replace hz2 : Hid (Zoo W0 (W.setCell ⟨wb, 5, none⟩ (.int .u64 ((m.a_ : Int) + 1))) (ik wb k { m with a_ := m.a_ + 1 } q y o)) := hz2;replace hk := hi_ hk;have hne : ((m.a_ : Int) == 9223372036854775807) = false := (by simp; omega);have hb : m.a_ + 1 < 18446744073709551616 := (by omega);clear hbx hz;go_enter func43, ntmps43;go_wp2_with fail;go_ret;exact ⟨k, rfl, hk, hz2⟩
theorem ds_ {W : World} (x : St) (bx wb : Nat) (session : Nat) (h1 : W.cell? ⟨bx, 0, none⟩ = some (.pointer (some ⟨wb, 0, none⟩))) (h2 : W.cell? ⟨wb, 7, none⟩ = some (.int .u64 session)) :
    Calls prog 81 #[.agg (stT.enc x).toArray, .pointer (some ⟨bx, 0, none⟩)] W fun e w' => e = .returned (.bool (x.session == session)) ∧ Hid (Below W.heap.size W w') := by
  have l1 := fu _ _ h1;have l2 := fu _ _ h2;dsimp only at l1 l2;have n1 : bx ≠ W.heap.size := by omega
  have n2 : wb ≠ W.heap.size := by omega
  have hb := hi_ ((ae _ W).alloc (ax _) (.cells (Gg x).toArray 69));unfold Gg at hb;show Calls prog 81 #[.agg #[.int .u64 x.session, .int .u64 x.last, .int .i64 x.node, .int .u64 x.life, .int .u64 x.ek], .pointer (some ⟨bx, 0, none⟩)] W _;go_enter func81, ntmps81;go_wp2_with fail;go_quiet (fail);go_wp2_with fail;go_ret;exact ⟨mo (z8 _ _), hi_ (qw hb.out nq)⟩
set_option maxRecDepth 100000 in
set_option maxHeartbeats 4000000 in
theorem fv_ {W0 W : World} {wb : Nat} {k : WkV} {m : Ml} {q : Rq} {y : RqV} {o : Oc} (hz : Zoo W0 W (ik wb k m q y o)) (hk : wm k m) (hl : m.seats.length ≤ 100000) :
    Calls prog 35 #[.pointer (some ⟨wb, 0, none⟩)] W (mr W0 wb q y (bi_ m q o)) := by
  have hz1 := (hz.dz #[.pointer (some ⟨wb, 0, none⟩)] 77).drew;generalize hB : W.heap.size = B at hz1;have hfr := hz1.front 6 rfl;have hdel := hi_ (Yd (.slice k.as_ m.seats.length k.cs) m.seats (fun x => x.session == q.session) (.pointer (some ⟨B, 0, none⟩)) hl hfr (fun x _ W2 l2 h2 => ds_ x B wb q.session (bc_ (h2.box 1 rfl).1 0) (bc_ (h2.box 2 rfl).1 7)));obtain ⟨hbx, -⟩ := hz1.box 1 rfl;obtain ⟨hb0, -⟩ := hz1.box 0 rfl;generalize hW1 : (W.alloc (.cells #[.pointer (some ⟨wb, 0, none⟩)] 77)) = W1 at *;have c0 : W1.drew.cell? ⟨B, 0, none⟩ = some (.pointer (some ⟨wb, 0, none⟩)) := bc_ hb0 0;have c3 : W1.drew.cell? ⟨wb, 3, none⟩ = some (.slice k.as_ m.seats.length k.cs) := bc_ hbx 3;replace hk := hi_ hk;clear hbx hb0 hz hfr hz1 hl;go_enter func35, ntmps35;go_wp2_with fail;refine wr_ (fun w' => w'.cell? ⟨B, 0, none⟩ = some (.pointer (some ⟨wb, 0, none⟩)) ∧ w'.cell? ⟨wb, 3, none⟩ = some (.slice k.as_ m.seats.length k.cs)) 8 4 ⟨c0, c3⟩ fun hok hS0 => ?_;refine av hok 0 ?_;refine av hok 1 ?_;refine av hok 2 ?_;refine av hok 3 ?_;refine av hok 4 ?_;refine av hok 5 ?_;refine av hok 6 ?_;refine g_ 7 fun K hK => ?_;go_simp;refine hdel.out.mono ?_;rintro e w3 ⟨v3, rfl, hz3⟩;dsimp only;obtain ⟨a3, n3, hv3⟩ := (hz3.out.own 0 rfl).len;subst hv3;obtain ⟨hbx, -⟩ := hz3.out.box 2 rfl;obtain ⟨hb0, -⟩ := hz3.out.box 1 rfl;have c0 : w3.cell? ⟨B, 0, none⟩ = some (.pointer (some ⟨wb, 0, none⟩)) := bc_ hb0 0;have c3 : w3.cell? ⟨wb, 3, none⟩ = some (.slice k.as_ m.seats.length k.cs) := bc_ hbx 3;have f3 := bf_ hbx 3;refine hK _ _ ⟨c0, c3⟩ ?_;clear hK K;refine kw ?_;have hz4 := Zoo.back (L := df B #[.pointer (some ⟨wb, 0, none⟩)] 77 :: ik wb k m q y o) 6 (by show 6 < _ + 8; omega) hz3.out;have hz5 := hz4.tail.il 0 rfl 3 (.slice a3 (bi_ m q o).2.1.seats.length n3);replace hz5 : Hid (Zoo W0 (w3.setCell ⟨wb, 3, none⟩ (.slice a3 (m.seats.filter (fun x => !(x.session == q.session))).length n3)) (ik wb { k with as_ := a3, cs := n3 } (bi_ m q o).2.1 q y o)) := hi_ hz5;generalize (m.seats.filter (fun x => !(x.session == q.session))).length = n at *;clear hz3 hz4 hbx hb0 hok hS0 hdel hW1 hB;go_wp2_with fail;go_ret;exact ⟨{ k with as_ := a3, cs := n3 }, rfl, hi_ hk.out, hz5⟩
end
end Go.Proofs.YtdobbfjmlnlieaaGreat
