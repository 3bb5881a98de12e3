/- create: walked; mail; mail; open: walked; Apply: what it computes, and its parts -/
import Derived.Test.YtdobbfjmlnlieaaGreatA01
import Derived.Test.YtdobbfjmlnlieaaGreatA10
import Derived.Test.YtdobbfjmlnlieaaGreatA03
import Derived.Laws.ResultCell
namespace Go.Proofs.YtdobbfjmlnlieaaGreat
set_option linter.unusedSimpArgs false
namespace Tryz
end Tryz
open Go.Proofs.Tryz Go.Proofs.YtdobbfjmlnlieaaGreat.Tryz
section
open Go.RowKit
attribute [local go_sem ↓] Go.wp_at_zero Go.wp_at_succ
theorem fb_ {u v : ByteArray} (h : u.data.toList = v.data.toList) : u = v := by
 cases u; cases v;congr 1;exact Array.toList_inj.1 h
theorem Xv {bs bs' : List BxV} (h : bs.Perm bs') : (qi bs).Perm (qi bs') := h.map _
set_option maxRecDepth 100000 in
set_option maxHeartbeats 8000000 in
theorem Ye {W0 W : World} {wb : Nat} {k : WkV} {m : Ml} {q : Rq} {y : RqV} {o : Oc} (hz : Zoo W0 W (ik wb k m q y o)) (hk : wm k m) (hl : m.boxes.length ≤ 500) (hbs : q.box.size ≤ maxLen) (hsort : m.boxes.Pairwise (fun x y => mh x y = true)) :
  Calls prog 37 #[.pointer (some ⟨wb, 0, none⟩)] W (mr W0 wb q y (nk m q o)) := by
 have hbox := hi_ (fy_ q.box hbs W);obtain ⟨hbx, -⟩ := hz.box 0 rfl;have k12 : W.cell? ⟨wb, 12, none⟩ = some (.string q.box) := bc_ hbx 12;replace hz := hi_ hz;replace hk := hi_ hk;replace hsort := hi_ hsort;clear hbx;go_enter func37, ntmps37;go_wp2_with fail;refine hbox.out.mono ?_;rintro e w3 ⟨u, rfl, hu, hb3⟩;have hz3 := hz.out.below hb3;obtain ⟨hbx, -⟩ := hz3.box 0 rfl;clear hbox k12 hb3 hz;have k0 : w3.cell? ⟨wb, 0, none⟩ = some (.slice k.ab k.bs.length k.cb) := bc_ hbx 0;have k1 : w3.cell? ⟨wb, 1, none⟩ = some (.int .u64 m.nv) := bc_ hbx 1;have k2 : w3.cell? ⟨wb, 2, none⟩ = some (.slice k.ah m.homes.length k.ch) := bc_ hbx 2;have k3 : w3.cell? ⟨wb, 3, none⟩ = some (.slice k.as_ m.seats.length k.cs) := bc_ hbx 3;have k4 : w3.cell? ⟨wb, 4, none⟩ = some (.int .u64 m.ns) := bc_ hbx 4;have k5 : w3.cell? ⟨wb, 5, none⟩ = some (.int .u64 m.a_) := bc_ hbx 5;have k12 : w3.cell? ⟨wb, 12, none⟩ = some (.string q.box) := bc_ hbx 12;cases hok : uu q.box.data.toList with
 | false =>
  have hr : Hid (nk m q o = (1, m, o)) := hi_ (by unfold nk; rw [dh (.inl hok)]);replace hz3 := hi_ hz3;clear hbx hu hok;go_wp2_with fail;go_ret;exact mr.of hr.out ⟨k, rfl, hk, hz3⟩
 | true =>
  cases hne : (u.toList == q.box.toList) with
  | false =>
   have hr : Hid (nk m q o = (1, m, o)) := hi_ (by
    unfold nk;rw [dh (.inr (fun h => by
     rw [Ec hu (hi_ rfl), h, beq_self_eq_true] at hne;cases hne))])
   have hne' : (u.toList != q.box.toList) = true := (by rw [bne, hne]; rfl);replace hz3 := hi_ hz3;clear hbx hu hok;go_wp2_with fail;go_ret;exact mr.of hr.out ⟨k, rfl, hk, hz3⟩
  | true =>
   obtain rfl : u = q.box := fb_ (by
    rw [Ec hu (hi_ rfl)] at hne;rw [hu.out];exact eq_of_beq hne)
   have hgood : Hid (¬ (uu q.box.data.toList = false ∨ Kw q.box.data.toList ≠ q.box.data.toList)) := hi_ (by
    rw [hok, ← hu.out]; simp)
   have hne' : (q.box.toList != q.box.toList) = false := (by rw [bne, hne]; rfl);have hat := hi_ (Nu hz3 hk.out (by omega) q.box);replace hz3 := hi_ hz3;clear hbx hu hok;go_wp2_with fail;refine hat.out.mono ?_;rintro e w4 ⟨rfl, hb4⟩;have hz4 := hz3.out.below hb4.out;obtain ⟨hbx, -⟩ := hz4.box 0 rfl;clear hat hz3 hb4 hne hne' k0 k1 k2 k3 k4 k5 k12;have k0 : w4.cell? ⟨wb, 0, none⟩ = some (.slice k.ab k.bs.length k.cb) := bc_ hbx 0;have k1 : w4.cell? ⟨wb, 1, none⟩ = some (.int .u64 m.nv) := bc_ hbx 1;have k25 : w4.cell? ⟨wb, 25, none⟩ = some (.int .u64 o.ag) := bc_ hbx 25;have f25 := bf_ hbx 25;unfold atM;rcases mi (fun x : Bx => x.name.toList == q.box.toList) m.boxes with ⟨e1, e2⟩ | ⟨i, hi, e1, e2⟩
   ·rw [e2];have hkl := hi_ hk.out.len;by_cases h8 : 8 ≤ m.boxes.length
    ·have hr : Hid (nk m q o = (7, m, o)) := hi_ (by unfold nk; rw [bq hgood.out, e1]; dsimp only; rw [dh h8]);have h8' : (8 : Int) ≤ (k.bs.length : Int) := (by rw [hkl.out]; omega);replace hz4 := hi_ hz4;clear hbx e1 e2;go_wp2_with fail;go_ret;exact mr.of hr.out ⟨k, rfl, hk, hz4⟩
    have h8' : decide ((8 : Int) ≤ (k.bs.length : Int)) = false := aj (by rw [hkl.out]; omega);by_cases hnv : 4294967295 < m.nv
    ·have hr : Hid (nk m q o = (13, m, o)) := hi_ (by unfold nk; rw [bq hgood.out, e1]; dsimp only; rw [bq h8, dh hnv]);have hnv' : (4294967295 : Int) < (m.nv : Int) := (by omega);replace hz4 := hi_ hz4;clear hbx e1 e2 h8;go_wp2_with fail;go_ret;exact mr.of hr.out ⟨k, rfl, hk, hz4⟩
    have hnv' : decide ((4294967295 : Int) < (m.nv : Int)) = false := aj (by omega);have hnv3 : m.nv + 1 < 18446744073709551616 := (by omega);have hr : Hid (nk m q o = (0, { m with boxes := uh mh ⟨q.box, m.nv, 1, 1, []⟩ m.boxes, nv := m.nv + 1 }, { o with ag := m.nv })) := hi_ (by unfold nk; rw [bq hgood.out, e1]; dsimp only; rw [bq h8, bq hnv]);have hfree : Hid (∀ x ∈ m.boxes, x.name.data.toList ≠ q.box.data.toList) := hi_ (fun x hx h => by
     have := l8.1 e1 x hx;rw [Ec (hi_ rfl) (hi_ rfl), h, beq_self_eq_true] at this;cases this)
    have hz5 : Zoo W0 (w4.setCell ⟨wb, 25, none⟩ (.int .u64 m.nv)) (ik wb k m q y { o with ag := m.nv }) := hz4.il 0 rfl 25 (.int .u64 m.nv);generalize hw5 : w4.setCell ⟨wb, 25, none⟩ (.int .u64 m.nv) = w5 at hz5;have hzd := hz5.drew;obtain ⟨hbx5, -⟩ := hzd.box 0 rfl;have s0 : w5.drew.cell? ⟨wb, 0, none⟩ = some (.slice k.ab k.bs.length k.cb) := bc_ hbx5 0;have s1 : w5.drew.cell? ⟨wb, 1, none⟩ = some (.int .u64 m.nv) := bc_ hbx5 1;clear hbx e1 e2 h8 hnv hz4 hz5 hbx5 hgood;go_wp2_with fail;clear k0 k1 k25 f25 h8' hnv';refine wr_ (fun w' => w'.cell? ⟨wb, 0, none⟩ = some (.slice k.ab k.bs.length k.cb) ∧ w'.cell? ⟨wb, 1, none⟩ = some (.int .u64 m.nv)) 15 4 ⟨s0, s1⟩ fun hok hS0 => ?_;generalize w5.drew = Wd at *;refine av hok 0 ?_;refine av hok 1 ?_;refine av hok 2 ?_;refine av hok 3 ?_;refine av hok 4 ?_;refine av hok 5 ?_;refine av hok 6 ?_;refine av hok 7 ?_;refine av hok 8 ?_;refine av hok 9 ?_;refine av hok 10 ?_;refine av hok 11 ?_;refine av hok 12 ?_;refine g_ 13 fun K hK => ?_;go_simp;obtain ⟨nb, hnb⟩ : ∃ nb : BxV, (⟨q.box, m.nv, 1, 1, [], none, 0⟩ : BxV) = nb := ⟨_, rfl⟩;have hcells : bxT.enc nb = [.string q.box, .int .u64 m.nv, .int .u64 1, .int .u64 1, .slice none 0 0] := (by rw [← hnb]; rfl);have hzA := hzd.alloc (.cells (bxT.enc nb).toArray 48);refine hK _ _ ⟨lg _ s0, lg _ s1⟩ ?_;clear hK K;try simp only [nrm_, Act.put]
    refine g_ 14 fun K hK => ?_;have hown1 := RT.Own.one bxT Wd nb Wd.heap.size rfl;obtain ⟨F, ⟨ho1, hF⟩, -, hact⟩ := hzA.act 3 (bxT.row (.slice k.ab k.bs.length k.cb) k.bs) rfl;rw [hcells] at hown1 ho1 hact hzA;refine bxT.jv rfl (.tmp 63) (.tmp 71) rfl _ _ k.bs [nb] rfl rfl ho1 hown1.rd (by rw [bi]; have := hkl.out; omega) ?_;intro v8 w8 ho8 hg8 hat8;have hz8 := hact (bxT.row v8 (k.bs ++ [nb])) (fun k => v8.ownBlock = some k) w8 ⟨ho8, fun _ => j6⟩ (iy hF hg8 hat8);obtain ⟨a8, c8, hv8⟩ := ho8.len;subst hv8;obtain ⟨hbx8, -⟩ := hz8.box 0 rfl;have t0 : w8.cell? ⟨wb, 0, none⟩ = some (.slice k.ab k.bs.length k.cb) := bc_ hbx8 0;have f0 := bf_ hbx8 0;refine hK _ _ ⟨t0, bc_ hbx8 1⟩ ?_;clear hK K;refine kw ?_;have hz9 := (hz8.il 0 rfl 0 (.slice a8 (k.bs ++ [nb]).length c8)).Td ltT;have hln : (k.bs ++ [nb]).length = k.bs.length + 1 := (by simp);rw [hln] at hz9;generalize hwC : w8.setCell ⟨wb, 0, none⟩ (.slice a8 (k.bs.length + 1) c8) = wC at hz9;have hz10 : Zoo W0 wC (bxT.row (.slice a8 (k.bs.length + 1) c8) (k.bs ++ [nb]) :: (ik wb { k with ab := a8, cb := c8, bs := k.bs ++ [nb] } m q y { o with ag := m.nv }).eraseIdx 3) := by
     refine hz9.perm ?_;unfold ik zk l9;dsimp only;rw [hln];have e3 : qi (k.bs ++ [nb]) = qi k.bs ++ [ltT.row (.slice none 0 0) []] := (by rw [← hnb]; unfold qi; rw [fo]; rfl);rw [e3];show (ltT.row (.slice none 0 0) [] :: df _ _ _ :: ky.row _ _ :: ky.row _ _ :: bxT.row _ _ :: hmT.row _ _ :: stT.row _ _ :: ma _ :: qi k.bs).Perm (bxT.row _ _ :: df _ _ _ :: ky.row _ _ :: ky.row _ _ :: hmT.row _ _ :: stT.row _ _ :: ma _ :: (qi k.bs ++ [ltT.row (.slice none 0 0) []]));refine (qx _ _).symm.trans ?_;show (df _ _ _ :: ky.row _ _ :: ky.row _ _ :: bxT.row _ _ :: hmT.row _ _ :: stT.row _ _ :: ma _ :: (qi k.bs ++ [ltT.row (.slice none 0 0) []])).Perm _;exact (Nl (l₁ := [_, _, _]) (l₂ := _ :: _ :: _ :: (qi k.bs ++ [ltT.row (.slice none 0 0) []])))
    have hsrt := hi_ (Xd hz10 (by simp) (by rw [hln]; have := hkl.out; omega));have k0 : wC.cell? ⟨wb, 0, none⟩ = some (.slice a8 (k.bs.length + 1) c8) := bc_ (hz9.box 1 rfl).1 0;replace hz9 := hi_ hz9;clear hz8 hact ho8 hg8 hat8 ho1 hF hown1 hzA s0 s1 hok hS0 hzd hbx8 hw5 hcells hz10;rw [hln];clear hln;go_wp2_with fail;refine hsrt.out.mono ?_;rintro e w9 ⟨rfl, l', hl', hzS⟩;have hll : l'.length = k.bs.length + 1 := (by rw [hl'.out.1.length_eq]; simp);have hbox' : l'.map BxV.b = uh mh ⟨q.box, m.nv, 1, 1, []⟩ m.boxes := by
     refine Tg ⟨q.box, m.nv, 1, 1, []⟩ hsort.out hfree.out ?_ ?_
     ·have := hl'.out.1.map BxV.b;rw [fo, hk.out.1, ← hnb] at this;exact this
     rw [List.pairwise_map];exact hl'.out.2
    have hz11 : Zoo W0 w9 (ik wb { k with ab := a8, cb := c8, bs := l' } m q y { o with ag := m.nv }) := by
     refine hzS.out.perm ?_;unfold ik zk l9;dsimp only;rw [hll, bz, bi];show (bxT.row _ l' :: df _ _ _ :: ky.row _ _ :: ky.row _ _ :: hmT.row _ _ :: stT.row _ _ :: ma _ :: qi (k.bs ++ [nb])).Perm (df _ _ _ :: ky.row _ _ :: ky.row _ _ :: bxT.row _ l' :: hmT.row _ _ :: stT.row _ _ :: ma _ :: qi l');refine (Nl (l₁ := [df _ _ _, ky.row _ _, ky.row _ _]) (a := bxT.row _ l')).symm.trans ?_;exact (List.Perm.append_left [df _ _ _, ky.row _ _, ky.row _ _, bxT.row _ l', hmT.row _ _, stT.row _ _, ma _] (Xv hl'.out.1.symm))
    have hz12 : Zoo W0 (w9.setCell ⟨wb, 1, none⟩ (.int .u64 ((m.nv : Int) + 1))) (ik wb { k with ab := a8, cb := c8, bs := l' } { m with boxes := uh mh ⟨q.box, m.nv, 1, 1, []⟩ m.boxes, nv := m.nv + 1 } q y { o with ag := m.nv }) := hz11.il 0 rfl 1 (.int .u64 ((m.nv : Int) + 1));have hokF : wm { k with ab := a8, cb := c8, bs := l' } { m with boxes := uh mh ⟨q.box, m.nv, 1, 1, []⟩ m.boxes, nv := m.nv + 1 } := ⟨hbox', fun x hx => by
     rcases fe.1 (hl'.out.1.mem_iff.1 hx) with h | h
     ·exact hk.out.2 x h
     rw [dx.1 h, ← hnb];exact fun z hz => by cases hz⟩
    obtain ⟨hbx11, -⟩ := hz11.box 0 rfl;have k1 : w9.cell? ⟨wb, 1, none⟩ = some (.int .u64 m.nv) := bc_ hbx11 1;have f1 := bf_ hbx11 1;replace hz12 := hi_ hz12;replace hokF := hi_ hokF;clear hsrt hz9 hzS hl' hll hz11 hbx11 hbox' k0 hnb;go_wp2_with fail;go_ret;exact mr.of hr.out ⟨_, rfl, hokF, hz12⟩
   rw [e2];have hr : Hid (nk m q o = (12, m, o)) := hi_ (by unfold nk; rw [bq hgood.out, e1]);have hi0 : (0 : Int) ≤ (i : Int) := (by omega);replace hz4 := hi_ hz4;clear hbx e1 e2;go_wp2_with fail;go_ret;exact mr.of hr.out ⟨k, rfl, hk, hz4⟩
end
section
open Go.RowKit
def Mv : BxV := ⟨⟨#[73, 78, 66, 79, 88]⟩, 1, 1, 1, [], none, 0⟩
def Fq : Ml := ⟨[Mv.b], 2, [], [], 1, 0⟩
def if_ (W : World) (m : Ml) (e : Ending) (w' : World) : Prop := ∃ v, e = .returned v ∧ Hid (pq w' v m) ∧ Hid (Below W.heap.size W w')
theorem gq_ (W : World) : pq (W.alloc (.cells (bxT.enc Mv).toArray 48)) (yg (.slice (some ⟨W.heap.size, 0, none⟩) 1 1) 2 (.slice none 0 0) (.slice none 0 0) 1 0) Fq :=
 ⟨_, _, _, [Mv], rfl, rfl, ⟨(RT.Own.one bxT W Mv _ rfl).rd, fun y hy => by
  simp only [dx] at hy;subst hy;exact ⟨(RT.Own.nil ltT _).rd, fun z hz => by cases hz⟩⟩, (RT.Own.nil hmT _).rd, (RT.Own.nil stT _).rd⟩
end
section
open Go.RowKit
def bx0 : BxV := ⟨⟨#[]⟩, 0, 0, 0, [], none, 0⟩
def Gw (m : Ml) (name : ByteArray) : Option Bx := m.boxes.find? (fun x => x.name.toList == name.toList)
def gd_ (W : World) (m : Ml) (name : ByteArray) (e : Ending) (w' : World) : Prop := ∃ z : BxV, e = .returned (.tuple #[Gy z, .bool (Gw m name).isSome]) ∧ Hid (z.b = (Gw m name).getD bx0.b) ∧ Hid (ve w' z.v z.rows) ∧ Hid (Below W.heap.size W w')
theorem Gp {α : Type} (p : α → Bool) (l : List α) : (ry p l = -1 ∧ l.find? p = none) ∨ ∃ (i : Nat) (hi : i < l.length), ry p l = (i : Int) ∧ l.find? p = some l[i] := by
 unfold ry;cases h : l.findIdx? p with
 | none => exact .inl ⟨rfl, uk.2 (fun x hx => by rw [l8.1 h x hx]; simp)⟩
 | some i =>
  obtain ⟨hi, h1, h2⟩ := jm.1 h;refine .inr ⟨i, hi, rfl, ?_⟩;rw [ww];exact ⟨h1, i, hi, rfl, fun j hj => by have := h2 j hj; simpa using this⟩
theorem xq {fn : Func} {p u : Tmp} {ty t : TypeId} (h : fn.results = #[.cell p ty, .tmp u]) (tmps : Array Value) (w : World) (B : Nat) (C : List Value) (hp : tmps.getD p undef = .pointer (some ⟨B, 0, none⟩)) (hb : w.heap[B]? = some (.cells C.toArray t (0, 0))) (hagg : ∀ w, (isAgg ty).run prog w = .ok true w) (hsz : ∀ w, (Go.sizeOf ty).run prog w = .ok C.length w) : (results fn tmps).run prog w = .ok (.tuple #[.agg C.toArray, tmps.getD u undef]) w := by
 rw [results_cell_tmp h, hp];have := run_loadCells_list (P := prog) w ⟨B, 0, none⟩ C (fun j v hj => by rw [zx, di, bc_ hb j]; simpa using hj);simp [asAddr, loadVar, hagg, hsz, this, Result.andThen]
set_option maxRecDepth 100000 in
set_option maxHeartbeats 8000000 in
theorem dr_ (v : Value) (m : Ml) (W : World) (hin : pq W v m) (hs : Ik m) (name : ByteArray) :
  Calls prog 19 #[v, .string name] W (gd_ W m name) := by
 obtain ⟨vb, vh, vs, bs, rfl, hbs, hib, hih, his⟩ := hin;have hib0 := hi_ (fun (W' : World) (h : Below W.heap.size W W') => hib.below h);have hlb : bs.length ≤ 1000 := by have := hs.boxes; rw [← hbs, az] at this; exact this
 obtain ⟨ab, cb, rfl, -⟩ := hib.1;obtain ⟨ah, ch, rfl, -⟩ := hih;obtain ⟨as_, cs, rfl, -⟩ := his;have hz := ((ny W).dz [.slice ab bs.length cb, .int .u64 m.nv, .slice ah m.homes.length ch, .slice as_ m.seats.length cs, .int .u64 m.ns, .int .u64 m.a_].toArray 27).dz (rq bx0).toArray 48;have hs1 : (W.alloc (.cells [.slice ab bs.length cb, .int .u64 m.nv, .slice ah m.homes.length ch, .slice as_ m.seats.length cs, .int .u64 m.ns, .int .u64 m.a_].toArray 27)).heap.size = W.heap.size + 1 := by simp
 rw [hs1] at hz;have hat := hi_ (ek_ ab ah as_ cb m.homes.length ch m.seats.length cs m.nv m.ns m.a_ bs name (hib0.out _ hz.bel).1 (by omega));unfold rq bx0 BxV.v at hz hat;dsimp only [List.length_nil] at hz hat;replace hz := hi_ hz;replace hbs := hi_ hbs;replace hs := hi_ hs;clear hib hs1;unfold yg;go_enter func19, ntmps19;go_wp2_with fail;refine hat.out.mono ?_;rintro e w2 ⟨rfl, hb2⟩;have hz2 := hz.out.below hb2.out;have hfm : Gw m name = (bs.find? (fun x => x.name.toList == name.toList)).map BxV.b := by
  unfold Gw;rw [← hbs.out, List.find?_map]; rfl
 unfold atB;rcases Gp (fun x : BxV => x.name.toList == name.toList) bs with ⟨e1, e2⟩ | ⟨i, hi, e1, e2⟩
 ·rw [e1];rw [e2] at hfm;have hfm2 : Hid (Gw m name = none) := hi_ hfm;obtain ⟨hb, -⟩ := hz2.box 0 rfl;obtain ⟨d0, d1, d2, d3, d4⟩ := bx5 hb;have f0 := bf_ hb;have hz5 := ((((hz2.il 0 rfl 0 (.string ⟨#[]⟩)).il 0 rfl 1 (.int .u64 0)).il 0 rfl 2 (.int .u64 0)).il 0 rfl 3 (.int .u64 0)).il 0 rfl 4 (.slice none 0 0);obtain ⟨hbz, -⟩ := hz5.box 0 rfl;replace hbz := hi_ hbz;have hbel := hi_ hz5.bel;clear hz5 hz2 hb hfm e1 e2 hat hb2;go_wp2_with fail;refine bodyPost_ret (xq rfl _ _ _ (rq bx0) rfl hbz.out isAgg48 sizeOf48) rfl ?_;exact ⟨bx0, by rw [hfm2.out]; rfl, hi_ (by rw [hfm2.out]; rfl), hi_ ⟨(RT.Own.nil ltT _).rd, fun z hz => by cases hz⟩, hbel⟩
 rw [e1];rw [e2] at hfm;have hfm2 : Hid (Gw m name = some bs[i].b) := hi_ hfm;obtain ⟨hbm, -⟩ := hz2.box 1 rfl;have m0 : w2.cell? ⟨W.heap.size, 0, none⟩ = some (.slice ab bs.length cb) := bc_ hbm 0;have hib2 := hib0.out _ hz2.bel;obtain ⟨b, o, cap, hv, -, hblt, hcells⟩ := bxT.ow hib2.1 hi;injection hv with hv1 hv2 hv3;subst hv1;have hcl := hi_ (Kn bs[i] w2 (hib2.2 _ (bg hi)) (by have := hs.out.letters _ (by rw [← hbs.out]; exact jo (bg hi)); have h : bs[i].b.letters.length = bs[i].rows.length := az ..; omega) (fun z hz => by have := hs.out.flags bs[i].b (by rw [← hbs.out]; exact jo (bg hi)) z.x (jo hz); omega));generalize bs[i] = x at *;have r0 := hcells 0 _ rfl;have r1 := hcells 1 _ rfl;have r2 := hcells 2 _ rfl;have r3 := hcells 3 _ rfl;have r4 := hcells 4 _ rfl;replace r0 : w2.cell? ⟨b, o + i * 5, none⟩ = some (.string x.name) := r0;replace r1 : w2.cell? ⟨b, o + i * 5 + 1, none⟩ = some (.int .u64 x.ag) := r1;replace r2 : w2.cell? ⟨b, o + i * 5 + 2, none⟩ = some (.int .u64 x.next) := r2;replace r3 : w2.cell? ⟨b, o + i * 5 + 3, none⟩ = some (.int .u64 x.high) := r3;replace r4 : w2.cell? ⟨b, o + i * 5 + 4, none⟩ = some (.slice x.a x.rows.length x.c) := r4;replace hcl : Hid (Calls prog 57 #[.agg #[.string x.name, .int .u64 x.ag, .int .u64 x.next, .int .u64 x.high, .slice x.a x.rows.length x.c]] w2 (Ni w2 x)) := hcl;have hi0 : (0 : Int) ≤ (i : Int) := by omega
 have hil2 : (i : Int) < (bs.length : Int) := by omega
 replace hz2 := hi_ hz2;clear e1 e2 hfm hat hb2 hcells hbm hib2 hv2 hv3;go_wp2_with fail;refine hcl.out.mono ?_;rintro e w3 ⟨z, S, he, hzb, hz3⟩;unfold Gy rq BxV.v at he;subst he;have hz4 := hz2.out.join hz3.out;obtain ⟨hb, -⟩ := hz4.box 2 rfl;obtain ⟨d0, d1, d2, d3, d4⟩ := bx5 hb;have f0 := bf_ hb;have hz5 := ((((hz4.il 2 rfl 0 (.string z.name)).il 2 rfl 1 (.int .u64 z.ag)).il 2 rfl 2 (.int .u64 z.next)).il 2 rfl 3 (.int .u64 z.high)).il 2 rfl 4 (.slice z.a z.rows.length z.c);obtain ⟨hbz, -⟩ := hz5.box 2 rfl;have hlt := hi_ (show ve _ z.v z.rows from ⟨(hz5.own 0 rfl).rd, hz5.gf_ 1 rfl hzb.out.2⟩);replace hbz := hi_ hbz;have hbel := hi_ hz5.bel;have hzb1 := hi_ hzb.out.1;clear hz5 hz4 hb hcl hz3 hz2 hzb r0 r1 r2 r3 r4;go_wp2_with fail;refine bodyPost_ret (xq rfl _ _ _ (rq z) rfl hbz.out isAgg48 sizeOf48) rfl ?_;exact ⟨z, by rw [hfm2.out]; rfl, hi_ (by rw [hfm2.out]; exact hzb1.out), hlt, hbel⟩
end
section
open Go.RowKit
attribute [local go_sem ↓] Go.wp_at_zero Go.wp_at_succ
def uj (m : Ml) (node : Int) : Hm := (m.homes.find? (fun x => x.node == node)).getD ⟨0, 0, 0⟩
def xg (m : Ml) (q : Rq) : List St := if (uj m q.node).life < q.life then m.seats.filter (fun x => !(x.node == q.node)) else m.seats
def r_ (m : Ml) (q : Rq) (o : Oc) : Int × Ml × Oc :=
 if q.node < 1 ∨ 5 < q.node ∨ q.life = 0 ∨ q.ek = 0 then (1, m, o)
 else if q.life < (uj m q.node).life then (14, m, o)
 else if (uj m q.node).life = q.life ∧ q.ek ≤ (uj m q.node).ek then
  match m.seats.find? (fun x => x.node == q.node && x.ek == q.ek) with
  | none => (14, m, o)
  | some x => (0, m, { o with session := x.session })
 else if 16 ≤ (xg m q).length ∨ 4611686018427387904 ≤ m.ns then (7, m, o)
 else (0, um { m with seats := xg m q ++ [⟨m.ns, 0, q.node, q.life, q.ek⟩], ns := m.ns + 1 } (ry (fun x => x.node == q.node) m.homes) ⟨q.node, q.life, q.ek⟩, { o with session := m.ns })
set_option maxHeartbeats 2000000 in
theorem ai_ {W : World} (x : St) (rb : Nat) (node : Int) (h1 : W.cell? ⟨rb, 3, none⟩ = some (.int .i64 node)) :
  Calls prog 79 #[.agg (stT.enc x).toArray, .pointer (some ⟨rb, 0, none⟩)] W fun e w' => e = .returned (.bool (x.node == node)) ∧ Hid (Below W.heap.size W w') := by
 have l1 := fu _ _ h1;dsimp only at l1;have n1 : rb ≠ W.heap.size := by omega
 have hb := hi_ ((ae _ W).alloc (ax _) (.cells (Gg x).toArray 69));unfold Gg at hb;show Calls prog 79 #[.agg #[.int .u64 x.session, .int .u64 x.last, .int .i64 x.node, .int .u64 x.life, .int .u64 x.ek], .pointer (some ⟨rb, 0, none⟩)] W _;go_enter func79, ntmps79;go_wp2_with fail;go_ret;exact ⟨rfl, hb⟩
structure Tw (m : Ml) : Prop where
 sorted : m.homes.Pairwise (fun x y => x.node < y.node)
 small : ∀ x ∈ m.homes, 0 ≤ x.node ∧ x.node ≤ 1000000
def ax_ : List Value := [.int .i64 0, .int .u64 0, .int .u64 0]
set_option maxRecDepth 100000 in
set_option maxHeartbeats 16000000 in
theorem cy_ {W0 W : World} {wb : Nat} {k : WkV} {m : Ml} {q : Rq} {y : RqV} {o : Oc} (hz : Zoo W0 W (ik wb k m q y o)) (hk : wm k m) (hlh : m.homes.length ≤ 100) (hls : m.seats.length ≤ 1000) (hh : Tw m) :
  Calls prog 34 #[.pointer (some ⟨wb, 0, none⟩)] W (mr W0 wb q y (r_ m q o)) := by
 obtain ⟨hbx, -⟩ := hz.box 0 rfl;have hrq := hi_ (fun j v (hj : (fq q y)[j]? = some v) => Yr hbx j v hj);have hz4 := hz.dz (rqZ.toArray) 41;unfold rqZ at hz4;have hs4 := hi_ (hz4.m_ 0 rfl);have hz5 : Hid (Zoo W0 _ (Bb W.heap.size q y :: ik wb k m q y o)) := hi_ (hz4.mq 0 rfl (fq q y) rfl);replace hk := hi_ hk;replace hh := hi_ hh;clear hbx hz hz4;go_enter func34, ntmps34;go_wp2_with (first
  | refine Dk rfl 41 (.tmp 10) rfl wb 6 (fq q y) (by rfl) isAgg41 sizeOf41 hrq.out ?_
  | (refine ru rfl 41 (.tmp 3) (.tmp 11) rfl W.heap.size 0 (fq q y) (by rfl) (by rfl) sizeOf41 (Sr q y) hs4.out.1 hs4.out.2 ?_; refine Ae ?_))
 refine hi_ ?_;generalize ((W.alloc (.cells #[.int .i64 0, .int .u64 0, .int .u64 0, .int .i64 0, .int .u64 0, .int .u64 0, .string ⟨#[]⟩, .string ⟨#[]⟩, .int .u64 0, .slice none 0 0, .slice none 0 0, .int .i64 0, .bool false, .int .u64 0, .string ⟨#[]⟩, .int .u64 0, .int .u64 0] 41)).setCells W.heap.size 0 (fq q y)) = w1 at hz5 ⊢;generalize W.heap.size = rb at hz5 ⊢;have hz1 := hz5;clear hrq hs4 hz5;obtain ⟨hrb, -⟩ := hz1.out.box 0 rfl;have r3 : w1.cell? ⟨rb, 3, none⟩ = some (.int .i64 q.node) := bc_ hrb 3;have r4 : w1.cell? ⟨rb, 4, none⟩ = some (.int .u64 q.life) := bc_ hrb 4;have r5 : w1.cell? ⟨rb, 5, none⟩ = some (.int .u64 q.ek) := bc_ hrb 5;clear hrb;by_cases hn1 : q.node < 1
 ·have hr : Hid (r_ m q o = (1, m, o)) := hi_ (by unfold r_; rw [dh (.inl hn1)]);have hzE := hi_ (hz1.out.tail);clear hz1;go_wp2_with fail;go_ret;exact mr.of hr.out ⟨k, rfl, hk, hzE⟩
 by_cases hn5 : 5 < q.node
 ·have hn1' : decide (q.node < 1) = false := aj hn1;have hr : Hid (r_ m q o = (1, m, o)) := hi_ (by unfold r_; rw [dh (.inr (.inl hn5))]);have hzE := hi_ (hz1.out.tail);clear hz1 hn1;go_wp2_with fail;go_ret;exact mr.of hr.out ⟨k, rfl, hk, hzE⟩
 by_cases hli : q.life = 0
 ·have hn1' : decide (q.node < 1) = false := aj hn1;have hn5' : decide (5 < q.node) = false := aj hn5;have hli' : ((q.life : Int) == 0) = true := beq_iff_eq.2 (by omega);have hr : Hid (r_ m q o = (1, m, o)) := hi_ (by unfold r_; rw [dh (.inr (.inr (.inl hli)))]);have hzE := hi_ (hz1.out.tail);clear hz1 hn1 hn5 hli;go_wp2_with fail;go_ret;exact mr.of hr.out ⟨k, rfl, hk, hzE⟩
 by_cases htr : q.ek = 0
 ·have hn1' : decide (q.node < 1) = false := aj hn1;have hn5' : decide (5 < q.node) = false := aj hn5;have hli' : ((q.life : Int) == 0) = false := cz.2 (by omega);have htr' : ((q.ek : Int) == 0) = true := beq_iff_eq.2 (by omega);have hr : Hid (r_ m q o = (1, m, o)) := hi_ (by unfold r_; rw [dh (.inr (.inr (.inr htr)))]);have hzE := hi_ (hz1.out.tail);clear hz1 hn1 hn5 hli htr;go_wp2_with fail;go_ret;exact mr.of hr.out ⟨k, rfl, hk, hzE⟩
 have hn1' : decide (q.node < 1) = false := aj hn1;have hn5' : decide (5 < q.node) = false := aj hn5;have hli' : ((q.life : Int) == 0) = false := cz.2 (by omega);have htr' : ((q.ek : Int) == 0) = false := cz.2 (by omega);have hgood : Hid (¬ (q.node < 1 ∨ 5 < q.node ∨ q.life = 0 ∨ q.ek = 0)) := hi_ (by omega);have hqn : 0 ≤ q.node ∧ q.node ≤ 1000000 := by omega
 obtain ⟨hqn0, hqn1⟩ := hqn;have hz2 := hz1.out.dz ax_.toArray 67;unfold ax_ at hz2;have hzd := hz2.drew;generalize hhbE : w1.heap.size = hb at hzd;generalize hw2 : (w1.alloc (.cells #[.int .i64 0, .int .u64 0, .int .u64 0] 67)) = w2 at hzd;obtain ⟨hbx, -⟩ := hzd.box 2 rfl;obtain ⟨k0, k1, k2, k3, k4, k5⟩ := bx6 hbx;obtain ⟨hrb, -⟩ := hzd.box 1 rfl;have d3 : w2.drew.cell? ⟨rb, 3, none⟩ = some (.int .i64 q.node) := bc_ hrb 3;have hhome : Hid (Calls prog 75 #[.agg #[.slice k.ab k.bs.length k.cb, .int .u64 m.nv, .slice k.ah m.homes.length k.ch, .slice k.as_ m.seats.length k.cs, .int .u64 m.ns, .int .u64 m.a_], .int .i64 q.node] w2.drew (Cx w2.drew (ry (fun x => x.node == q.node) m.homes))) := hi_ (do_ k.ab k.ah k.as_ k.bs.length k.cb k.ch m.seats.length k.cs m.nv m.ns m.a_ m.homes q.node (hzd.own 6 rfl).rd (by omega));replace hzd := hi_ hzd;clear hbx hrb hn1 hn5 hli htr hz1 hz2;go_wp2_with fail;clear hhbE hw2 r3 r4 r5 hn1' hn5' hli' htr';go_cut [5] (fun v5 wx => v5 = .int .i64 (ry (fun x : Hm => x.node == q.node) m.homes) ∧ Hid (Zoo W0 wx (df hb ax_.toArray 67 :: Bb rb q y :: ik wb k m q y o)));case first =>
  refine wr_ (fun w' => w'.cell? ⟨wb, 0, none⟩ = some (.slice k.ab k.bs.length k.cb) ∧ w'.cell? ⟨wb, 1, none⟩ = some (.int .u64 m.nv) ∧ w'.cell? ⟨wb, 2, none⟩ = some (.slice k.ah m.homes.length k.ch) ∧ w'.cell? ⟨wb, 3, none⟩ = some (.slice k.as_ m.seats.length k.cs) ∧ w'.cell? ⟨wb, 4, none⟩ = some (.int .u64 m.ns) ∧ w'.cell? ⟨wb, 5, none⟩ = some (.int .u64 m.a_) ∧ w'.cell? ⟨rb, 3, none⟩ = some (.int .i64 q.node)) 7 1 ⟨k0, k1, k2, k3, k4, k5, d3⟩ fun hok hS0 => ?_;generalize w2.drew = Wd at *;refine av hok 0 ?_;refine av hok 1 ?_;refine av hok 2 ?_;refine av hok 3 ?_;refine av hok 4 ?_;refine av hok 5 ?_;refine g_ 6 fun K hK => ?_;go_simp;refine hhome.out.mono ?_;rintro e w3 ⟨rfl, hb3⟩;dsimp only;have hz3 := hzd.out.below hb3.out;obtain ⟨hbx, -⟩ := hz3.box 2 rfl;obtain ⟨hrb, -⟩ := hz3.box 1 rfl;clear k0 k1 k2 k3 k4 k5 d3;obtain ⟨k0, k1, k2, k3, k4, k5⟩ := bx6 hbx;have d3 : w3.cell? ⟨rb, 3, none⟩ = some (.int .i64 q.node) := bc_ hrb 3;refine hK _ _ ⟨k0, k1, k2, k3, k4, k5, d3⟩ ?_;clear hK K;refine kw ?_;replace hz3 := hi_ hz3;clear hhome hzd hok hS0 hb3 hbx hrb k0 k1 k2 k3 k4 k5 d3;go_wp2_with fail;go_meet;case rel => exact ⟨rfl, hz3⟩
 case rest =>
 clear hhome hzd k0 k1 k2 k3 k4 k5 d3;obtain ⟨rfl, hz3⟩ := hcut;generalize wc = w3 at *;obtain ⟨atI, hatI⟩ : ∃ atI, ry (fun x : Hm => x.node == q.node) m.homes = atI := ⟨_, rfl⟩;rw [hatI];have hA : Hid (ry (fun x : Hm => x.node == q.node) m.homes = atI) := hi_ hatI;clear hatI;go_upto_if 38 with fail
 go_cut [] (fun wx => Hid (Zoo W0 wx (df hb (y8 (uj m q.node)).toArray 67 :: Bb rb q y :: ik wb k m q y o)));case first =>
  have hz0 : Zoo W0 w3 (df hb ax_.toArray 67 :: Bb rb q y :: ik wb k m q y o) := hz3.out;rcases Gp (fun x : Hm => x.node == q.node) m.homes with ⟨e1, e2⟩ | ⟨i, hi, e1, e2⟩
  ·rw [hA.out] at e1;subst e1;have hh0 : uj m q.node = ⟨0, 0, 0⟩ := (by unfold uj; rw [e2]; rfl);have hz4 : Hid (Zoo W0 w3 (df hb (y8 (uj m q.node)).toArray 67 :: Bb rb q y :: ik wb k m q y o)) := hi_ (by rw [hh0]; exact hz0);clear e2 hh0 hz0 hz3;go_wp2_with fail;go_meet;case rel => exact hz4
  rw [hA.out] at e1;subst e1;have hh0 : uj m q.node = m.homes[i] := by unfold uj; rw [e2]; rfl
  obtain ⟨hbx, -⟩ := hz0.box 2 rfl;have k2 : w3.cell? ⟨wb, 2, none⟩ = some (.slice k.ah m.homes.length k.ch) := bc_ hbx 2;obtain ⟨gh, cap, hv, -, -, hcells⟩ := (hz0.own 6 rfl).cells hi;injection hv with hv1 hv2 hv3;rw [hv1] at k2;obtain ⟨h, hhx⟩ : ∃ h, m.homes[i] = h := ⟨_, rfl⟩;rw [hhx] at hcells hh0;have c0 : w3.cell? ⟨gh, i * 3, none⟩ = some (.int .i64 h.node) := hcells 0 (by decide);have c1 : w3.cell? ⟨gh, i * 3 + 1, none⟩ = some (.int .u64 h.life) := hcells 1 (by decide);have c2 : w3.cell? ⟨gh, i * 3 + 2, none⟩ = some (.int .u64 h.ek) := hcells 2 (by decide);obtain ⟨hbh, -⟩ := hz0.box 0 rfl;have g0 : w3.cell? ⟨hb, 0, none⟩ = some (.int .i64 0) := bc_ hbh 0;have g1 : w3.cell? ⟨hb, 1, none⟩ = some (.int .u64 0) := bc_ hbh 1;have g2 : w3.cell? ⟨hb, 2, none⟩ = some (.int .u64 0) := bc_ hbh 2;have f0 := bf_ hbh 0;have f1 := bf_ hbh 1;have f2 := bf_ hbh 2;have hz4 := ((hz0.il 0 rfl 0 (.int .i64 h.node)).il 0 rfl 1 (.int .u64 h.life)).il 0 rfl 2 (.int .u64 h.ek);replace hz4 : Hid (Zoo W0 (((w3.setCell ⟨hb, 0, none⟩ (.int .i64 h.node)).setCell ⟨hb, 1, none⟩ (.int .u64 h.life)).setCell ⟨hb, 2, none⟩ (.int .u64 h.ek)) (df hb (y8 (uj m q.node)).toArray 67 :: Bb rb q y :: ik wb k m q y o)) := hi_ (by rw [hh0]; exact hz4);have hi0 : (0 : Int) ≤ (i : Int) := by omega
  have hi1 : (i : Int) < (m.homes.length : Int) := by omega
  clear e2 hh0 hz0 hz3 hcells hbx hbh hv2 hv3 hhx hA;go_wp2_with fail;go_meet;case rel => exact hz4
 case rest =>
 clear hz3;replace hz := hcut;clear hcut;generalize wc = wH at *;obtain ⟨h, hhe⟩ : ∃ h, uj m q.node = h := ⟨_, rfl⟩;rw [hhe] at hz;replace hhe := hi_ hhe;obtain ⟨hbh, -⟩ := hz.out.box 0 rfl;obtain ⟨hrb, -⟩ := hz.out.box 1 rfl;have h1 : wH.cell? ⟨hb, 1, none⟩ = some (.int .u64 h.life) := bc_ hbh 1;have h2 : wH.cell? ⟨hb, 2, none⟩ = some (.int .u64 h.ek) := bc_ hbh 2;have r3 : wH.cell? ⟨rb, 3, none⟩ = some (.int .i64 q.node) := bc_ hrb 3;have r4 : wH.cell? ⟨rb, 4, none⟩ = some (.int .u64 q.life) := bc_ hrb 4;have r5 : wH.cell? ⟨rb, 5, none⟩ = some (.int .u64 q.ek) := bc_ hrb 5;clear hbh hrb;by_cases hlo : q.life < h.life
 ·have hlo' : (q.life : Int) < (h.life : Int) := by omega
  have hr : Hid (r_ m q o = (14, m, o)) := hi_ (by unfold r_; rw [bq hgood.out, hhe.out, dh hlo]);have hzE := hi_ (hz.out.tail.tail);clear hz hlo hgood;go_wp2_with fail;go_ret;exact mr.of hr.out ⟨k, rfl, hk, hzE⟩
 have hlo' : decide ((q.life : Int) < (h.life : Int)) = false := aj (by omega);go_upto_region 10 with fail;go_cut [63] (fun v63 wx => v63 = .bool (decide (h.life = q.life) && decide (q.ek ≤ h.ek)) ∧ wx = wH);case first =>
  by_cases he : h.life = q.life
  ·have he' : ((h.life : Int) == (q.life : Int)) = true := beq_iff_eq.2 (by omega);replace he := hi_ he;go_wp2_with fail;go_meet;case rel =>
    refine ⟨?_, rfl⟩;congr 1;rw [b_ he.out, Bool.true_and, decide_eq_decide]
    (try omega)
  have he' : ((h.life : Int) == (q.life : Int)) = false := cz.2 (by omega);replace he := hi_ he;go_wp2_with fail;go_meet;case rel => exact ⟨by rw [aj he.out]; rfl, rfl⟩
 case rest =>
 obtain ⟨rfl, rfl⟩ := hcut;obtain ⟨c2, hc2⟩ : ∃ c2, (decide (h.life = q.life) && decide (q.ek ≤ h.ek)) = c2 := ⟨_, rfl⟩;rw [hc2];replace hc2 := hi_ hc2;cases c2 with
 | true =>
  have hcc : Hid (h.life = q.life ∧ q.ek ≤ h.ek) := hi_ (by simpa using hc2.out);have hzd := hz.out.drew;obtain ⟨hbx, -⟩ := hzd.box 2 rfl;obtain ⟨k0, k1, k2, k3, k4, k5⟩ := bx6 hbx;obtain ⟨hrb, -⟩ := hzd.box 1 rfl;have d3 : wc.drew.cell? ⟨rb, 3, none⟩ = some (.int .i64 q.node) := bc_ hrb 3;have d5 : wc.drew.cell? ⟨rb, 5, none⟩ = some (.int .u64 q.ek) := bc_ hrb 5;have hop : Hid (Calls prog 76 #[.agg #[.slice k.ab k.bs.length k.cb, .int .u64 m.nv, .slice k.ah m.homes.length k.ch, .slice k.as_ m.seats.length k.cs, .int .u64 m.ns, .int .u64 m.a_], .int .i64 q.node, .int .u64 q.ek] wc.drew (Cx wc.drew (ry (fun x => x.node == q.node && x.ek == q.ek) m.seats))) := hi_ (Xr k.ab k.ah k.as_ k.bs.length k.cb m.homes.length k.ch k.cs m.nv m.ns m.a_ m.seats q.node q.ek (hzd.own 7 rfl).rd (by omega));clear hbx hrb h1 h2 r3 r4 r5 hlo';go_wp2_with fail;refine wr_ (fun w' => w'.cell? ⟨wb, 0, none⟩ = some (.slice k.ab k.bs.length k.cb) ∧ w'.cell? ⟨wb, 1, none⟩ = some (.int .u64 m.nv) ∧ w'.cell? ⟨wb, 2, none⟩ = some (.slice k.ah m.homes.length k.ch) ∧ w'.cell? ⟨wb, 3, none⟩ = some (.slice k.as_ m.seats.length k.cs) ∧ w'.cell? ⟨wb, 4, none⟩ = some (.int .u64 m.ns) ∧ w'.cell? ⟨wb, 5, none⟩ = some (.int .u64 m.a_) ∧ w'.cell? ⟨rb, 3, none⟩ = some (.int .i64 q.node) ∧ w'.cell? ⟨rb, 5, none⟩ = some (.int .u64 q.ek)) 9 1 ⟨k0, k1, k2, k3, k4, k5, d3, d5⟩ fun hok hS0 => ?_;generalize wc.drew = Wd at *;refine av hok 0 ?_;refine av hok 1 ?_;refine av hok 2 ?_;refine av hok 3 ?_;refine av hok 4 ?_;refine av hok 5 ?_;refine av hok 6 ?_;refine av hok 7 ?_;refine g_ 8 fun K hK => ?_;go_simp;refine hop.out.mono ?_;rintro e w4 ⟨rfl, hb4⟩;dsimp only;have hz4 := hzd.below hb4.out;obtain ⟨hbx, -⟩ := hz4.box 2 rfl;obtain ⟨hrb, -⟩ := hz4.box 1 rfl;clear k0 k1 k2 k3 k4 k5 d3 d5;have k0 : w4.cell? ⟨wb, 0, none⟩ = some (.slice k.ab k.bs.length k.cb) := bc_ hbx 0;have k1 : w4.cell? ⟨wb, 1, none⟩ = some (.int .u64 m.nv) := bc_ hbx 1;have k2 : w4.cell? ⟨wb, 2, none⟩ = some (.slice k.ah m.homes.length k.ch) := bc_ hbx 2;have k3 : w4.cell? ⟨wb, 3, none⟩ = some (.slice k.as_ m.seats.length k.cs) := bc_ hbx 3;have k4 : w4.cell? ⟨wb, 4, none⟩ = some (.int .u64 m.ns) := bc_ hbx 4;have k5 : w4.cell? ⟨wb, 5, none⟩ = some (.int .u64 m.a_) := bc_ hbx 5;have k24 : w4.cell? ⟨wb, 24, none⟩ = some (.int .u64 o.session) := bc_ hbx 24;have f24 := bf_ hbx 24;have d3 : w4.cell? ⟨rb, 3, none⟩ = some (.int .i64 q.node) := bc_ hrb 3;have d5 : w4.cell? ⟨rb, 5, none⟩ = some (.int .u64 q.ek) := bc_ hrb 5;refine hK _ _ ⟨k0, k1, k2, k3, k4, k5, d3, d5⟩ ?_;clear hK K;refine kw ?_;clear hop hzd hok hS0 hb4 hbx hrb k0 k1 k2 k4 k5 d3 d5;rcases Gp (fun x : St => x.node == q.node && x.ek == q.ek) m.seats with ⟨e1, e2⟩ | ⟨i, hi, e1, e2⟩
  ·rw [e1];have hr : Hid (r_ m q o = (14, m, o)) := hi_ (by unfold r_; rw [bq hgood.out, hhe.out, bq hlo, dh hcc.out, e2]);have hzE := hi_ (hz4.tail.tail);clear hz4 hz hlo hgood e1 e2 k3 k24 f24;go_wp2_with fail;go_ret;exact mr.of hr.out ⟨k, rfl, hk, hzE⟩
  rw [e1];have hr : Hid (r_ m q o = (0, m, { o with session := m.seats[i].session })) := hi_ (by unfold r_; rw [bq hgood.out, hhe.out, bq hlo, dh hcc.out, e2]);obtain ⟨gs, cap, hv, -, -, hcells⟩ := (hz4.own 7 rfl).cells hi;injection hv with hv1 hv2 hv3;rw [hv1] at k3;have c0 : w4.cell? ⟨gs, i * 5, none⟩ = some (.int .u64 m.seats[i].session) := hcells 0 (by decide);have hzE : Hid (Zoo W0 (w4.setCell ⟨wb, 24, none⟩ (.int .u64 m.seats[i].session)) (ik wb k m q y { o with session := m.seats[i].session })) := hi_ ((hz4.tail.tail).il 0 rfl 24 (.int .u64 m.seats[i].session));generalize m.seats[i].session = sess at *;have hi0 : (0 : Int) ≤ (i : Int) := by omega
  have hi1 : (i : Int) < (m.seats.length : Int) := by omega
  clear hz4 hz hlo hgood e1 e2 hcells hv1 hv2 hv3;go_wp2_with fail;go_ret;exact mr.of hr.out ⟨k, rfl, hk, hzE⟩
 | false =>
  have hcc : Hid (¬ (h.life = q.life ∧ q.ek ≤ h.ek)) := hi_ (by
   rintro ⟨g1, g2⟩;have := hc2.out;rw [b_ g1, b_ g2] at this;cases this)
  have hso : Hid (xg m q = if h.life < q.life then m.seats.filter (fun x => !(x.node == q.node)) else m.seats) := hi_ (by unfold xg; rw [hhe.out]);obtain ⟨hbx, -⟩ := hz.out.box 2 rfl;have k3 : wc.cell? ⟨wb, 3, none⟩ = some (.slice k.as_ m.seats.length k.cs) := bc_ hbx 3;clear hbx;go_upto_if 97 with fail
  go_cut [7] (fun v7 wx => ∃ a c, v7 = .slice a (xg m q).length c ∧ Hid (Zoo W0 wx (df hb (y8 h).toArray 67 :: Bb rb q y :: ik wb k m q y o)) ∧ Hid (Zoo W0 wx (stT.row (.slice a (xg m q).length c) (xg m q) :: df hb (y8 h).toArray 67 :: Bb rb q y :: (ik wb k m q y o).eraseIdx 5)));case first =>
   by_cases hlt : h.life < q.life
   ·rw [dh hlt] at hso;have hlt' : (h.life : Int) < (q.life : Int) := (by omega);have hcl := hi_ (Nb (hz.out.own 7 rfl).rd (by omega));clear hlt;go_wp2_with fail;refine hcl.out.mono ?_;rintro e w5 ⟨v5, rfl, ho5, hb5, hf5⟩;have hz5 := hz.out.newRow (R := stT) hb5.out ho5.out hf5.out;obtain ⟨a5, c5, hv5⟩ := ho5.out.len;have hdel := hi_ (Ta v5 m.seats (fun x => x.node == q.node) (.pointer (some ⟨rb, 0, none⟩)) (by omega) hz5 (fun x _ W2 l2 h2 => ai_ x rb q.node (bc_ (h2.box 2 rfl).1 3)));subst hv5;clear hcl hz5 ho5 hb5 hf5;go_wp2_with fail;refine hdel.out.mono ?_;rintro e w6 ⟨v6, rfl, hz6⟩;rw [← hso.out] at hz6;obtain ⟨a6, c6, hv6⟩ := (hz6.out.own 0 rfl).len;subst hv6;clear hdel;go_wp2_with fail;go_meet;case rel => exact ⟨a6, c6, rfl, hi_ hz6.out.tail, hi_ (hz6.out.sub (gz _ (gz _ (gz _ (Gb _ _)))))⟩
   rw [bq hlt] at hso;have hlt' : decide ((h.life : Int) < (q.life : Int)) = false := aj (by omega);have hlt2 : ¬ ((h.life : Int) < (q.life : Int)) := (by omega);have hfr := hi_ (hz.out.front 7 rfl);rw [← hso.out] at hfr k3;clear hlt;rw [hso.out] at k3;go_wp2_with fail;go_meet;case rel => exact ⟨k.as_, k.cs, by rw [hso.out], hz, hfr⟩
  case rest =>
  obtain ⟨a7, c7, rfl, hzA, hzB⟩ := hcut;generalize wc = wI at *;obtain ⟨ss, hss⟩ : ∃ ss, xg m q = ss := ⟨_, rfl⟩;rw [hss] at hzB ⊢;replace hss := hi_ hss;have hsl : Hid (ss.length ≤ 1000) := hi_ (by
   rw [← hss.out];unfold xg;split
   ·exact ed (lw _ _) hls
   exact hls)
  have hr0 : Hid (r_ m q o = (if 16 ≤ ss.length ∨ 4611686018427387904 ≤ m.ns then (7, m, o)
   else (0, um { m with seats := ss ++ [⟨m.ns, 0, q.node, q.life, q.ek⟩], ns := m.ns + 1 } (ry (fun x => x.node == q.node) m.homes) ⟨q.node, q.life, q.ek⟩, { o with session := m.ns }))) := hi_ (by
    unfold r_;rw [bq hgood.out, hhe.out, bq hlo, bq hcc.out, hss.out])
  obtain ⟨hbx, -⟩ := hzA.out.box 2 rfl;have k4 : wI.cell? ⟨wb, 4, none⟩ = some (.int .u64 m.ns) := bc_ hbx 4;have k24 : wI.cell? ⟨wb, 24, none⟩ = some (.int .u64 o.session) := bc_ hbx 24;have f24 := bf_ hbx 24;clear hbx hz h1 h2 r3 r4 r5 hlo' k3 hgood hlo hcc hso hc2 hhe;by_cases h16 : 16 ≤ ss.length
  ·have h16' : (16 : Int) ≤ (ss.length : Int) := (by omega);have hr : Hid (r_ m q o = (7, m, o)) := hi_ (by rw [hr0.out, dh (.inl h16)]);have hzE := hi_ (hzA.out.tail.tail);clear hzA hzB hr0 h16;go_wp2_with fail;go_ret;exact mr.of hr.out ⟨k, rfl, hk, hzE⟩
  have h16' : decide ((16 : Int) ≤ (ss.length : Int)) = false := aj (by omega);have h16b : ¬ (16 : Int) ≤ (ss.length : Int) := by omega
  by_cases hns : 4611686018427387904 ≤ m.ns
  ·have hns' : (4611686018427387904 : Int) ≤ (m.ns : Int) := (by omega);have hr : Hid (r_ m q o = (7, m, o)) := hi_ (by rw [hr0.out, dh (.inr hns)]);have hzE := hi_ (hzA.out.tail.tail);clear hzA hzB hr0 h16 hns;go_wp2_with fail;go_ret;exact mr.of hr.out ⟨k, rfl, hk, hzE⟩
  have hns' : decide ((4611686018427387904 : Int) ≤ (m.ns : Int)) = false := aj (by omega);have hns3 : m.ns + 1 < 18446744073709551616 := by omega
  have hr : Hid _ := hi_ (hr0.out.trans (bq (fun h => h.elim h16 hns)));have hzC : Zoo W0 (wI.setCell ⟨wb, 24, none⟩ (.int .u64 m.ns)) (stT.row (.slice a7 ss.length c7) ss :: df hb (y8 h).toArray 67 :: Bb rb q y :: (ik wb k m q y { o with session := m.ns }).eraseIdx 5) := hzB.out.il 3 rfl 24 (.int .u64 m.ns);generalize hwJ : wI.setCell ⟨wb, 24, none⟩ (.int .u64 m.ns) = wJ at hzC;have hzd := hzC.drew;obtain ⟨hbx, -⟩ := hzd.box 3 rfl;obtain ⟨hrb, -⟩ := hzd.box 2 rfl;have s4 : wJ.drew.cell? ⟨wb, 4, none⟩ = some (.int .u64 m.ns) := bc_ hbx 4;have d3 : wJ.drew.cell? ⟨rb, 3, none⟩ = some (.int .i64 q.node) := bc_ hrb 3;have d4 : wJ.drew.cell? ⟨rb, 4, none⟩ = some (.int .u64 q.life) := bc_ hrb 4;have d5 : wJ.drew.cell? ⟨rb, 5, none⟩ = some (.int .u64 q.ek) := bc_ hrb 5;clear hbx hrb hzC hzA hzB h16 hns hr0;go_wp2_with fail;clear h16' h16b hns' k4 k24 f24 hwJ;refine wr_ (fun w' => w'.cell? ⟨wb, 4, none⟩ = some (.int .u64 m.ns) ∧ w'.cell? ⟨rb, 3, none⟩ = some (.int .i64 q.node) ∧ w'.cell? ⟨rb, 4, none⟩ = some (.int .u64 q.life) ∧ w'.cell? ⟨rb, 5, none⟩ = some (.int .u64 q.ek)) 16 4 ⟨s4, d3, d4, d5⟩ fun hok hS0 => ?_;generalize wJ.drew = Wd at *;refine av hok 0 ?_;refine av hok 1 ?_;refine av hok 2 ?_;refine av hok 3 ?_;refine av hok 4 ?_;refine av hok 5 ?_;refine av hok 6 ?_;refine av hok 7 ?_;refine av hok 8 ?_;refine av hok 9 ?_;refine av hok 10 ?_;refine av hok 11 ?_;refine av hok 12 ?_;refine av hok 13 ?_;refine g_ 14 fun K hK => ?_;go_simp;obtain ⟨ns, hnst⟩ : ∃ ns : St, (⟨m.ns, 0, q.node, q.life, q.ek⟩ : St) = ns := ⟨_, rfl⟩;have hcells : stT.enc ns = [.int .u64 m.ns, .int .u64 0, .int .i64 q.node, .int .u64 q.life, .int .u64 q.ek] := by rw [← hnst]; rfl
  have hzA := hzd.alloc (.cells (stT.enc ns).toArray 69);refine hK _ _ ⟨lg _ s4, lg _ d3, lg _ d4, lg _ d5⟩ ?_;clear hK K;try simp only [nrm_, Act.put]
  refine g_ 15 fun K hK => ?_;have hown1 := RT.Own.one stT Wd ns Wd.heap.size rfl;obtain ⟨F, ⟨ho1, hF⟩, -, hact⟩ := hzA.act 0 (stT.row (.slice a7 ss.length c7) ss) rfl;rw [hcells] at hown1 ho1 hact hzA;refine stT.jv rfl (.tmp 123) (.tmp 136) rfl _ _ ss [ns] rfl rfl ho1 hown1.rd (by rw [bi]; have := hsl.out; omega) ?_;intro v8 w8 ho8 hg8 hat8;have hz8 := hact (stT.row v8 (ss ++ [ns])) (fun k => v8.ownBlock = some k) w8 ⟨ho8, fun _ => j6⟩ (iy hF hg8 hat8);obtain ⟨a8, c8, hv8⟩ := ho8.len;subst hv8;obtain ⟨hbx8, -⟩ := hz8.box 3 rfl;obtain ⟨hrb8, -⟩ := hz8.box 2 rfl;refine hK _ _ ⟨bc_ hbx8 4, bc_ hrb8 3, bc_ hrb8 4, bc_ hrb8 5⟩ ?_;clear hK K;refine kw ?_;have t3 : w8.cell? ⟨wb, 3, none⟩ = some (.slice k.as_ m.seats.length k.cs) := bc_ hbx8 3;have f3 := bf_ hbx8 3;have hln : (ss ++ [ns]).length = ss.length + 1 := by simp
  have hz9 := hz8.il 3 rfl 3 (.slice a8 (ss ++ [ns]).length c8);have hz9s : Zoo W0 (w8.setCell ⟨wb, 3, none⟩ (.slice a8 (ss ++ [ns]).length c8)) (stT.row (.slice a8 (ss ++ [ns]).length c8) (ss ++ [ns]) :: (Bb rb q y :: ik wb { k with as_ := a8, cs := c8 } { m with seats := ss ++ [ns] } q y { o with session := m.ns }).eraseIdx 6) := hz9.sub (gz _ (j_ _ (j4 _)));have hz10 : Zoo W0 (w8.setCell ⟨wb, 3, none⟩ (.slice a8 (ss ++ [ns]).length c8)) (Bb rb q y :: ik wb { k with as_ := a8, cs := c8 } { m with seats := ss ++ [ns] } q y { o with session := m.ns }) := Zoo.back (L := Bb rb q y :: ik wb { k with as_ := a8, cs := c8 } { m with seats := ss ++ [ns] } q y { o with session := m.ns }) 6 (by show 6 < _ + 8; omega) hz9s;rw [hln] at hz10;generalize hwC : w8.setCell ⟨wb, 3, none⟩ (.slice a8 (ss.length + 1) c8) = wC at hz10;have k4 : wC.cell? ⟨wb, 4, none⟩ = some (.int .u64 m.ns) := bc_ (hz10.box 1 rfl).1 4;have f4 := bf_ (hz10.box 1 rfl).1 4;have hz11 : Zoo W0 (wC.setCell ⟨wb, 4, none⟩ (.int .u64 ((m.ns : Int) + 1))) (Bb rb q y :: ik wb { k with as_ := a8, cs := c8 } { m with seats := ss ++ [ns], ns := m.ns + 1 } q y { o with session := m.ns }) := hz10.il 1 rfl 4 (.int .u64 ((m.ns : Int) + 1));generalize hwD : wC.setCell ⟨wb, 4, none⟩ (.int .u64 ((m.ns : Int) + 1)) = wD at hz11;obtain ⟨hrb, -⟩ := hz11.box 0 rfl;have r3 : wD.cell? ⟨rb, 3, none⟩ = some (.int .i64 q.node) := bc_ hrb 3;have r4 : wD.cell? ⟨rb, 4, none⟩ = some (.int .u64 q.life) := bc_ hrb 4;have r5 : wD.cell? ⟨rb, 5, none⟩ = some (.int .u64 q.ek) := bc_ hrb 5;have hset := Xh (wb := wb) (k := { k with as_ := a8, cs := c8 }) (m := { m with seats := ss ++ [ns], ns := m.ns + 1 }) (q := q) (y := y) (o := { o with session := m.ns }) (E := []) atI ⟨q.node, q.life, q.ek⟩ (by rw [jy]; exact hz11.tail) hlh
   (fun hp => by
    rcases mi (fun x : Hm => x.node == q.node) m.homes with ⟨e1, e2⟩ | ⟨i, hi, e1, e2⟩
    ·rw [hA.out] at e2; omega
    rw [hA.out] at e2;subst e2;simpa using hi)
   (fun hneg => ⟨hh.out.sorted, fun x hx => by
    rcases mi (fun x : Hm => x.node == q.node) m.homes with ⟨e1, e2⟩ | ⟨i, hi, e1, e2⟩
    ·have := l8.1 e1 x hx;intro h;rw [show x.node = q.node from h, beq_self_eq_true] at this;cases this
    rw [hA.out] at e2; omega, hh.out.small, hqn0, hqn1⟩)
  have hset2 : Hid (Calls prog 80 #[.pointer (some ⟨wb, 0, none⟩), .int .i64 atI, .agg #[.int .i64 q.node, .int .u64 q.life, .int .u64 q.ek]] wD (Zn W0 wb { k with as_ := a8, cs := c8 } (um { m with seats := ss ++ [ns], ns := m.ns + 1 } atI ⟨q.node, q.life, q.ek⟩) q y { o with session := m.ns } [])) := hi_ hset;rw [hnst, hA.out] at hr;rw [hln];replace hnst := hi_ hnst;clear hset hz11 hz10 hz9 hz9s hz8 hbx8 hrb8 hact ho8 hg8 hat8 ho1 hF hown1 hzA hcells hok hS0 s4 d3 d4 d5 hzd hrb hln hA hh hss;go_wp2_with fail;refine hset2.out.mono ?_;rintro e w9 ⟨ah, ch, rfl, hz9⟩;rw [jy] at hz9;have hokF : Hid (wm { k with as_ := a8, cs := c8, ah := ah, ch := ch } (um { m with seats := ss ++ [ns], ns := m.ns + 1 } atI ⟨q.node, q.life, q.ek⟩)) := hi_ ⟨by
   unfold um;split
   ·exact hk.out.1
   exact hk.out.1, hk.out.2⟩
  clear hset2 hwC hwD k4 f4 t3 f3 r3 r4 r5;go_wp2_with fail;go_ret;exact mr.of hr.out ⟨_, rfl, hokF, hz9⟩
end
section
open Go.RowKit
attribute [local go_sem ↓] Go.wp_at_zero Go.wp_at_succ
def Bu (m : Ml) (q : Rq) : Int × Ml × Oc :=
 if q.op = 1 then r_ m q oc0 else if q.op = 2 then bi_ m q oc0 else if q.op = 3 then df_ m q oc0 else if q.op = 4 then nk m q oc0
 else if q.op = 5 then uo m q oc0 else if q.op = 6 then lq m q oc0 else if q.op = 7 then pg m q oc0 else if q.op = 8 then oh m q oc0
 else if q.op = 9 then uw m q oc0 else Jk m q oc0
def ocE (n : Int) : Oc := { oc0 with code := n }
def mf (r : Int × Ml × Oc) : Ml × Oc := if r.1 = 0 then (r.2.1, r.2.2) else (r.2.1, ocE r.1)
def y7 (m : Ml) (i : Nat) (n : Nat) : Ml := { m with seats := m.seats.modify i (fun x => { x with last := n }) }
def lm (m : Ml) (q : Rq) : Ml × Oc :=
 if q.op < 1 ∨ 11 ≤ q.op ∨ 64 < q.h_.length then (m, ocE 1)
 else if q.op = 1 ∨ q.op = 10 then mf (Bu m q)
 else match m.seats.findIdx? (fun x => x.session == q.session) with
  | none => (m, ocE 16)
  | some i => if q.number ≤ ((m.seats[i]?).map St.last).getD 0 then (m, ocE 14) else mf (Bu (y7 m i q.number) q)
structure Gr (m : Ml) : Prop where
 sz : Ik m
 nb : m.boxes.length ≤ 500
 nh : m.homes.length ≤ 100
 hm : Tw m
 nx : ∀ b ∈ m.boxes, b.next ≤ 4294967296
 hi : ∀ b ∈ m.boxes, b.high ≤ 9223372036854775807
 fs : ∀ b ∈ m.boxes, ∀ x ∈ b.letters, Eh x.flags
 so : m.boxes.Pairwise (fun x y => mh x y = true)
 sw : m.a_ ≤ 9223372036854775807
theorem Gr.put {m : Ml} (h : Gr m) (i n : Nat) : Gr (y7 m i n) := ⟨⟨h.sz.boxes, h.sz.homes, by show (m.seats.modify i _).length ≤ 1000; rw [List.length_modify]; exact h.sz.seats, h.sz.letters, h.sz.flags⟩, h.nb, h.nh, ⟨h.hm.sorted, h.hm.small⟩, h.nx, h.hi, h.fs, h.so, h.sw⟩
structure Qy (q : Rq) : Prop where
 sz : Tv q
 box : q.box.size ≤ maxLen
def Vo : List Value := [.nilFunc, .func (.func 34) #[] #[], .func (.func 35) #[] #[], .func (.func 36) #[] #[], .func (.func 37) #[] #[], .func (.func 38) #[] #[], .func (.func 39) #[] #[], .func (.func 40) #[] #[], .func (.func 41) #[] #[], .func (.func 42) #[] #[], .func (.func 43) #[] #[]]
theorem du_ {W0 W : World} {wb : Nat} {k : WkV} {m : Ml} {q : Rq} {y : RqV} (hz : Zoo W0 W (ik wb k m q y oc0)) (hk : wm k m) (hm : Gr m) (hin : Ac W0 q y) (hq : Qy q) (n : Nat) (hn : q.op = (n : Int)) (h1 : 1 ≤ n) (h2 : n ≤ 10) :
  ∃ fn, Vo[n]? = some (.func (.func fn) #[] #[]) ∧ (∀ args w, (callFunc fn args).run prog w = .ok (.enter fn args) w) ∧ Calls prog fn #[.pointer (some ⟨wb, 0, none⟩)] W (Az W0 wb q y (Bu m q)) := by
 have hc : n = 1 ∨ n = 2 ∨ n = 3 ∨ n = 4 ∨ n = 5 ∨ n = 6 ∨ n = 7 ∨ n = 8 ∨ n = 9 ∨ n = 10 := by omega
 have tw : ∀ {fn : FuncId} {res : Int × Ml × Oc}, Calls prog fn #[.pointer (some ⟨wb, 0, none⟩)] W (mr W0 wb q y res) → Calls prog fn #[.pointer (some ⟨wb, 0, none⟩)] W (Az W0 wb q y res) := fun h => h.mono (fun _ _ h => h.two);unfold Bu;rw [hn];rcases hc with rfl | rfl | rfl | rfl | rfl | rfl | rfl | rfl | rfl | rfl
 ·exact ⟨_, rfl, enters_of func34 (by kernel_rfl) rfl, tw (cy_ hz hk hm.nh hm.sz.seats hm.hm)⟩
 ·exact ⟨_, rfl, enters_of func35 (by kernel_rfl) rfl, tw (fv_ hz hk (by have := hm.sz.seats; omega))⟩
 ·exact ⟨_, rfl, enters_of func36 (by kernel_rfl) rfl, tw (de_ hz hk)⟩
 ·exact ⟨_, rfl, enters_of func37 (by kernel_rfl) rfl, tw (Ye hz hk hm.nb hq.box hm.so)⟩
 ·exact ⟨_, rfl, enters_of func38 (by kernel_rfl) rfl, tw (Xm hz hk hm.sz.boxes)⟩
 ·exact ⟨_, rfl, enters_of func39 (by kernel_rfl) rfl, tw (Yo hz hk hm.sz.boxes hin hq.sz)⟩
 ·exact ⟨_, rfl, enters_of func40 (by kernel_rfl) rfl, Zx hz hk hm.sz hm.fs hm.hi hin hq.sz (by decide) (by decide)⟩
 ·exact ⟨_, rfl, enters_of func41 (by kernel_rfl) rfl, tw (Vk hz hk hm.sz hin hq.sz (by decide))⟩
 ·exact ⟨_, rfl, enters_of func42 (by kernel_rfl) rfl, tw (dw_ hz hk hm.sz hm.nx hin hq.sz (by decide))⟩
 exact ⟨_, rfl, enters_of func43 (by kernel_rfl) rfl, tw (Zw hz hk hm.sw)⟩
theorem Da {fn : Func} {p u : Tmp} {ty ty2 t t2 : TypeId} (h : fn.results = #[.cell p ty, .cell u ty2]) (tmps : Array Value) (w : World) (B B2 : Nat) (C C2 : List Value) (hp : tmps.getD p undef = .pointer (some ⟨B, 0, none⟩)) (hu : tmps.getD u undef = .pointer (some ⟨B2, 0, none⟩)) (hb : w.heap[B]? = some (.cells C.toArray t (0, 0))) (hb2 : w.heap[B2]? = some (.cells C2.toArray t2 (0, 0)))
  (hagg : ∀ w, (isAgg ty).run prog w = .ok true w) (hsz : ∀ w, (Go.sizeOf ty).run prog w = .ok C.length w) (hagg2 : ∀ w, (isAgg ty2).run prog w = .ok true w) (hsz2 : ∀ w, (Go.sizeOf ty2).run prog w = .ok C2.length w) : (results fn tmps).run prog w = .ok (.tuple #[.agg C.toArray, .agg C2.toArray]) w := by
 have h1 := run_loadCells_list (P := prog) w ⟨B, 0, none⟩ C (fun j v hj => by rw [zx, di, bc_ hb j]; simpa using hj);have h2 := run_loadCells_list (P := prog) w ⟨B2, 0, none⟩ C2 (fun j v hj => by rw [zx, di, bc_ hb2 j]; simpa using hj);rw [Array.getD_eq_getD_getElem?] at hp hu;simp only [results, h];simp [Sem.run_bind, Result.andThen, hp, hu, asAddr, loadVar, hagg, hsz, h1, hagg2, hsz2, h2]
theorem Zoo.gp_ {Wb W0 W W' : World} {L : List Th} (h : Zoo W0 W L) (hB : Below Wb.heap.size Wb W') (hs : Wb.heap.size ≤ W0.heap.size) (hk : ∀ k, W0.heap.size ≤ k → W'.heap[k]? = W.heap[k]?) : Zoo Wb W' L := by
 obtain ⟨h0, P, h1, h2⟩ := h;exact ⟨hB, P, h1, ⟨fun x hx => x.1.kept _ _ _ (h2.holds x hx) (fun k hF => hk k (h2.low x hx k hF)), fun x hx k hF => ed hs (h2.low x hx k hF), h2.apart⟩⟩
def Cf (W : World) (v : Value) (o : Oc) : Prop := ∃ aU cU aM cM, v = .agg #[.int .i64 o.code, .int .u64 o.session, .int .u64 o.ag, .slice aU o.h_.length cU, .slice aM o.vw.length cM] ∧ Rd W (.slice aU o.h_.length cU) o.h_.length (ky.cells o.h_) ∧ Rd W (.slice aM o.vw.length cM) o.vw.length (ky.cells o.vw)
theorem Cf.below {W W' : World} {v : Value} {o : Oc} (h : Cf W v o) (hb : Below W.heap.size W W') : Cf W' v o := by
 obtain ⟨aU, cU, aM, cM, h1, h2, h3⟩ := h;exact ⟨aU, cU, aM, cM, h1, h2.below hb, h3.below hb⟩
def jw (ok : Nat → Prop) (w : World) (P : World → Prop) : Prop := ∀ w' : World, (∀ k, ok k → k < w.heap.size → w'.heap[k]? = w.heap[k]?) → P w'
theorem jw.now {ok : Nat → Prop} {w : World} {P : World → Prop} (h : jw ok w P) : P w := h w (fun _ _ _ => rfl)
theorem jw.on {ok : Nat → Prop} {w w' : World} {P : World → Prop} (h : jw ok w P) (hs : w.heap.size ≤ w'.heap.size) (hw : ∀ k, ok k → k < w.heap.size → w'.heap[k]? = w.heap[k]?) : jw ok w' P :=
 fun w2 h2 => h w2 (fun k hk hl => (h2 k hk (by omega)).trans (hw k hk hl))
theorem jw.below {ok : Nat → Prop} {w w' : World} {P : World → Prop} (h : jw ok w P) (hb : Below w.heap.size w w') : jw ok w' P := h.on hb.size (fun k _ hl => hb.block k hl)
theorem jw.weak {ok ok2 : Nat → Prop} {w : World} {P : World → Prop} (h : jw ok w P) (hi : ∀ k, k < w.heap.size → ok k → ok2 k) : jw ok2 w P :=
 fun w2 h2 => h w2 (fun k hk hl => h2 k (hi k hl hk) hl)
theorem jw.mono {ok : Nat → Prop} {w : World} {P Q : World → Prop} (h : jw ok w P) (hi : ∀ w', P w' → Q w') : jw ok w Q := fun w2 h2 => hi w2 (h w2 h2)
theorem Zoo.stay {W1 w wF : World} {L : List Th} {P : World → Prop} (hz : Zoo W1 w L) (hh : ∀ j, W1.heap.size ≤ j → wF.heap[j]? = w.heap[j]?) (hP : ∀ W0 w', Zoo W0 w' L → P w') (hB : ∀ a b, P a → Below a.heap.size a b → P b) : jw (fun j => W1.heap.size ≤ j) wF P := by
 intro w' hw';have h1 : Zoo { w' with heap := #[] } { w' with heap := w'.heap.extract 0 wF.heap.size } L := hz.gp_ ⟨rfl, rfl, rfl, by simp, fun k hk => by simp at hk⟩ (by simp) (fun k hk => by
  rw [← hh k hk];rcases oo k wF.heap.size with h | h
  ·rw [← hw' k hk h, Qc];simp [h];omega
  rw [Fb h, Fb];simp only [Array.size_extract];omega)
 refine hB _ _ (hP _ _ h1) ⟨rfl, rfl, rfl, by simp only [Array.size_extract]; omega, fun k hk => ?_⟩;simp only [Array.size_extract] at hk;show w'.heap[k]? = (w'.heap.extract 0 wF.heap.size)[k]?;rw [Qc];simp only [di];rw [dh (by omega)]
def Jj (W : World) (r : Ml × Oc) (e : Ending) (w' : World) : Prop := ∃ v ov, e = .returned (.tuple #[v, ov]) ∧ Hid (jw (fun k => W.heap.size ≤ k) w' fun x => pq x v r.1) ∧ Hid (jw (fun k => W.heap.size ≤ k) w' fun x => Cf x ov r.2) ∧ Hid (Below W.heap.size W w')
end
end Go.Proofs.YtdobbfjmlnlieaaGreat
