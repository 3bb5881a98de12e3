/- store: walked; slices; settle: walked; settle: walked; create: walked -/
import Derived.Test.YtdobbfjmlnlieaaGreatA01
import Derived.Test.YtdobbfjmlnlieaaGreatA08
import Derived.Test.YtdobbfjmlnlieaaGreatA09
import Derived.Test.YtdobbfjmlnlieaaGreatA02
import Derived.Test.YtdobbfjmlnlieaaGreatLay
namespace Go.Proofs.YtdobbfjmlnlieaaGreat
set_option linter.unusedSimpArgs false
namespace Tryz
end Tryz
open Go.Proofs.Tryz Go.Proofs.YtdobbfjmlnlieaaGreat.Tryz
section
open Go.RowKit
attribute [local go_sem ↓] Go.wp_at_zero Go.wp_at_succ
set_option maxRecDepth 100000 in
set_option maxHeartbeats 16000000 in
theorem Zx {W0 W : World} {wb : Nat} {k : WkV} {m : Ml} {q : Rq} {y : RqV} {o : Oc} (hz : Zoo W0 W (ik wb k m q y o)) (hk : wm k m) (hs : Ik m) (hfs : ∀ b ∈ m.boxes, ∀ x ∈ b.letters, Eh x.flags) (hhb : ∀ b ∈ m.boxes, b.high ≤ 9223372036854775807) (hin : Ac W0 q y) (hq : Tv q) (ho : o.h_.length ≤ 10000) (hom : o.vw.length ≤ 10000) :
  Calls prog 40 #[.pointer (some ⟨wb, 0, none⟩)] W (Az W0 wb q y (pg m q o)) := by
 have hnamed := hi_ (Lh hz hk hs.boxes);clear hz;go_enter func40, ntmps40;go_wp2_with fail;refine hnamed.out.mono ?_;rintro e w3 ⟨hz3, hb3, hres⟩;clear hnamed hb3;rcases Gm m q with hn | ⟨i, hn, hi⟩
 ·rw [hn] at hres;dsimp only at hres;subst hres;have hr : Hid (pg m q o = (6, m, o)) := hi_ (by unfold pg; rw [hn]);replace hk := hi_ hk;clear hn hs hin hq ho hom hfs hhb;go_wp2_with fail;go_ret;exact Az.of hr.out (fun _ => rfl) ⟨k, rfl, hk, hz3⟩
 rw [hn] at hres;dsimp only at hres;obtain ⟨g, hg, rfl⟩ := hres;have hil : i < k.bs.length := by rw [hk.len]; exact hi
 have hgm := hk.get hil;obtain ⟨x, hx⟩ : ∃ x, k.bs[i] = x := ⟨_, rfl⟩;rw [hx] at hgm;have hxm : x ∈ k.bs := by rw [← hx]; exact bg hil
 have hxb : x.b ∈ m.boxes := mg hgm;have hxl : x.rows.length ≤ 10000 := by have := hs.letters _ hxb; rwa [xk] at this
 have hxf : Hid (∀ z ∈ x.rows, z.x.flags.length ≤ 10000) := hi_ (fun z hz => hs.flags _ hxb z.x (jo (f := LtV.x) hz));have hxz : Hid (∀ z ∈ x.rows, Eh z.x.flags) := hi_ (fun z hz => hfs _ hxb z.x (jo (f := LtV.x) hz));have hxh : x.high ≤ 9223372036854775807 := hhb _ hxb;have hr0 : Hid (pg m q o = (if kr q.flags = false ∨ q.how < 0 ∨ 2 < q.how then (1, m, o)
  else if (x.rows.map LtV.x).any (qz (x.rows.map LtV.x) q) then (7, m, o)
  else if (x.rows.map LtV.x).any (ut (x.rows.map LtV.x) q) = false then (0, m, pz (x.rows.map LtV.x) q o x.rows.length)
  else if 9223372036854775807 ≤ x.high then (13, m, o)
  else (0, qj m i { x.b with high := x.high + 1, letters := (x.rows.map LtV.x).map (Ba (x.rows.map LtV.x) q x.high) }, pz (x.rows.map LtV.x) q o x.rows.length))) := hi_ (by
   unfold pg; rw [hn]; dsimp only; rw [hgm]; dsimp only; rw [xk]; rfl)
 obtain ⟨hbx, -⟩ := hz3.out.box 0 rfl;have k16 : w3.cell? ⟨wb, 16, none⟩ = some (.slice y.af q.flags.length y.cf) := bc_ hbx 16;have k17 : w3.cell? ⟨wb, 17, none⟩ = some (.int .i64 q.how) := bc_ hbx 17;have hright := hi_ (Ip _ q.flags w3 (jf hin.2 hz3.out.bel) (by have := hq.fl; omega) hq.sz);replace hk := hi_ hk;replace hg := hi_ hg;replace hx := hi_ hx;replace hxm := hi_ hxm;replace hin := hi_ hin;replace hq := hi_ hq;clear hn hs hgm hxb hi hfs hbx hhb;go_wp2_with fail;refine hright.out.mono ?_;rintro e w4 ⟨rfl, hb4⟩;have hz4 := hz3.out.below hb4.out;obtain ⟨hbx, -⟩ := hz4.box 0 rfl;clear k16 k17 hright hz3 hb4;have k16 : w4.cell? ⟨wb, 16, none⟩ = some (.slice y.af q.flags.length y.cf) := bc_ hbx 16;have k17 : w4.cell? ⟨wb, 17, none⟩ = some (.int .i64 q.how) := bc_ hbx 17;obtain ⟨g', hg', hglt, hbox, hfr⟩ := ug hz4 rfl hil;obtain rfl : g = g' := by have h := hg.out.symm.trans hg'; injection h with h; injection h
 have hrow := xn (wb := wb) (m := m) (q := q) (y := y) (o := o) i hil;have hrd := (hz4.own (i + 7) hrow).rd;rw [hx.out] at hbox hrd;have b4 := hbox.c4;have hclone := hi_ (Nc hrd (by omega));unfold BxV.v at hclone;clear hbx hg' hbox hfr hrow hrd;cases hrb : kr q.flags with
 | false =>
  have hr : Hid (pg m q o = (1, m, o)) := hi_ (by rw [hr0.out, dh (.inl hrb)]);replace hz4 := hi_ hz4;clear hr0 hrb;go_wp2_with fail;go_ret;exact Az.of hr.out (fun _ => rfl) ⟨k, rfl, hk, hz4⟩
 | true =>
  by_cases hlo : q.how < 0
  ·have hr : Hid (pg m q o = (1, m, o)) := hi_ (by rw [hr0.out, dh (.inr (.inl hlo))]);replace hz4 := hi_ hz4;clear hr0 hrb;go_wp2_with fail;go_ret;exact Az.of hr.out (fun _ => rfl) ⟨k, rfl, hk, hz4⟩
  have hlo' : decide (q.how < 0) = false := aj hlo;by_cases hhi : 2 < q.how
  ·have hr : Hid (pg m q o = (1, m, o)) := hi_ (by rw [hr0.out, dh (.inr (.inr hhi))]);replace hz4 := hi_ hz4;clear hr0 hrb hlo;go_wp2_with fail;go_ret;exact Az.of hr.out (fun _ => rfl) ⟨k, rfl, hk, hz4⟩
  have hhi' : decide (2 < q.how) = false := aj hhi;have hgo : Hid (¬ (kr q.flags = false ∨ q.how < 0 ∨ 2 < q.how)) := hi_ (by rw [hrb]; simp only [reduceCtorEq, false_or, not_or]; exact ⟨hlo, hhi⟩);rw [bq hgo.out] at hr0;have hz4h := hi_ hz4;clear hrb hlo hhi hz4;go_wp2_with fail;refine hclone.out.mono ?_;rintro e w5 ⟨v5, rfl, ho5, hb5, hf5⟩;have hz5 := hz4h.out.newRow (R := ltT) hb5.out ho5.out hf5.out;obtain ⟨a5, c5, hv5⟩ := ho5.out.len;subst hv5;obtain ⟨g', hg', hglt, hbox, hfr⟩ := ug hz5.tail rfl hil;obtain rfl : g = g' := by have h := hg.out.symm.trans hg'; injection h with h; injection h
  have hrow := xn (wb := wb) (m := m) (q := q) (y := y) (o := o) i hil;have hrd := (hz5.tail.own (i + 7) hrow).rd;rw [hx.out] at hbox hrd;have hmeant := hi_ (Li (wb := wb) (g := g) (i := i) hbox.c4 hrd (by omega));replace hz5 := hi_ hz5;clear hclone hz4h hb5 ho5 hf5 b4 k16 k17 hlo' hhi' hg' hbox hfr hrow hrd;go_wp2_with fail;refine hmeant.out.mono ?_;rintro e w6 ⟨c, d, rfl, hcd, hb6⟩;have hz6 := (hz5.out.cap hcd.out hb6.out).swap;obtain ⟨g', hg', -, hbox, hfr⟩ := ug hz6.tail.tail rfl hil;obtain rfl : g = g' := by have h := hg.out.symm.trans hg'; injection h with h; injection h
  rw [hx.out] at hbox;have b4 := hbox.c4;rcases n_ x.rows.length with h00 | hpos
  ·have e0 : x.rows = [] := eu h00;have hr : Hid (pg m q o = (0, m, o)) := hi_ (by
    rw [hr0.out, e0];have e : pz ([].map LtV.x) q o ([] : List LtV).length = o := (by simp [pz, zg, zf]);rw [e];rfl)
   rw [h00] at b4;replace hz6 := hi_ hz6.tail.tail;clear hmeant hz5 hcd hb6 hg' hbox hfr hr0 e0;go_wp2_with fail;go_loopw [55, 6] (fun v55 v6 wr => v55 = .int .i64 0 ∧ v6 = .bool false ∧ Hid (Zoo W0 wr (ik wb k m q y o))) (fun v55 _ _ => 0);case atStart => exact ⟨rfl, rfl, hz6⟩
   case round =>
    obtain ⟨rfl, rfl, hz⟩ := hrel;go_wp2_with fail;go_ret;exact Az.of hr.out (fun _ => rfl) ⟨k, rfl, hk, hz⟩
  obtain ⟨gn, capn, hv5, -, -, -⟩ := (hz6.own 0 rfl).cells hpos;injection hv5 with hv5 hv5b hv5c;subst hv5;clear hv5b hv5c capn;have hst0 : Hid (Hf (x.rows.map LtV.x) q x.high k.S k.S x.rows false 0) := hi_ (Hf.start rfl (hk.out.2 x hxm.out));replace hz6 : Hid (Zoo W0 w6 (ltT.row (.slice (some ⟨gn, 0, none⟩) x.rows.length c5) x.rows :: Jb c d wb (yz (x.rows.map LtV.x)) :: ik wb { k with aU := k.aU, cU := k.cU, aM := k.aM, cM := k.cM, S := k.S } m q y (pz (x.rows.map LtV.x) q o 0))) := hi_ (by
   have e : pz (x.rows.map LtV.x) q o 0 = o := (by simp [pz, zg, zf]);rw [e];exact hz6)
  clear hmeant hz5 hcd hb6 hg' hbox hfr;go_wp2_with fail;go_loopw [55, 6] (fun v55 v6 wr => ∃ (j : Nat) (ch : Bool) (aU : Option Addr) (cU : Nat) (aM : Option Addr) (cM : Nat) (S : List (Value × List (List UInt8))) (nx : List LtV), v55 = .int .i64 j ∧ v6 = .bool ch ∧ j ≤ x.rows.length ∧ Hid (Hf (x.rows.map LtV.x) q x.high k.S S nx ch j) ∧ Hid (Zoo W0 wr (ltT.row (.slice (some ⟨gn, 0, none⟩) x.rows.length c5) nx :: Jb c d wb (yz (x.rows.map LtV.x)) :: ik wb { k with aU := aU, cU := cU, aM := aM, cM := cM, S := S } m q y (pz (x.rows.map LtV.x) q o j)))) (fun v55 _ _ => x.rows.length - (intOf v55).toNat);case atStart => exact ⟨0, false, k.aU, k.cU, k.aM, k.cM, k.S, x.rows, rfl, rfl, dw _, hst0, hz6⟩
  case round =>
   clear hz6 b4 hst0;obtain ⟨j, ch, aU, cU, aM, cM, S, nx, rfl, rfl, hj, hst, hz⟩ := hrel;by_cases hlt : j < x.rows.length
   ·have hrow := xn (wb := wb) (k := { k with aU := aU, cU := cU, aM := aM, cM := cM, S := S }) (m := m) (q := q) (y := y) (o := pz (x.rows.map LtV.x) q o j) i hil;rw [show ({ k with aU := aU, cU := cU, aM := aM, cM := cM, S := S } : WkV).bs[i] = x from hx.out] at hrow;obtain ⟨gl, cap', hv, -, hgl, hcells⟩ := (hz.out.own (i + 9) hrow).cells hlt;injection hv with hv1 hv2 hv3;obtain ⟨z, hzx⟩ : ∃ z, x.rows[j] = z := ⟨_, rfl⟩;rw [hzx] at hcells;have r0 : wr.cell? ⟨gl, j * 5, none⟩ = some (.int .u64 z.x.uid) := hcells 0 (by decide);have r1 : wr.cell? ⟨gl, j * 5 + 1, none⟩ = some (.slice z.a z.x.flags.length z.c) := hcells 1 (by decide);have r2 : wr.cell? ⟨gl, j * 5 + 2, none⟩ = some (.int .u64 z.x.mod) := hcells 2 (by decide);have r3 : wr.cell? ⟨gl, j * 5 + 3, none⟩ = some (.string z.x.hash) := hcells 3 (by decide);have r4 : wr.cell? ⟨gl, j * 5 + 4, none⟩ = some (.int .u64 z.x.size) := hcells 4 (by decide);have hzm : z ∈ x.rows := (by rw [← hzx]; exact bg hlt);have hzb := hz.out.dz [.int .u64 z.x.uid, .slice z.a z.x.flags.length z.c, .int .u64 z.x.mod, .string z.x.hash, .int .u64 z.x.size].toArray 50;have hcall := Jn z c d wb q.h_ y.au y.cu (yz (x.rows.map LtV.x)) (hzb.capOf 2 rfl).1 (bc_ (hzb.box 3 rfl).1 15) (hzb.capOf 2 rfl).2 (Ac.below hin.out hzb.bel).1 hq.out.ul;replace hcall : Calls prog 123 #[.agg #[.int .u64 z.x.uid, .slice z.a z.x.flags.length z.c, .int .u64 z.x.mod, .string z.x.hash, .int .u64 z.x.size], .pointer (some ⟨c, 0, none⟩), .pointer (some ⟨d, 0, none⟩)] (wr.alloc (.cells #[.int .u64 z.x.uid, .slice z.a z.x.flags.length z.c, .int .u64 z.x.mod, .string z.x.hash, .int .u64 z.x.size] 50)) fun e w' => e = .returned (.bool (l_ (x.rows.map LtV.x) q z.x)) ∧ Hid (Below (wr.alloc (.cells #[.int .u64 z.x.uid, .slice z.a z.x.flags.length z.c, .int .u64 z.x.mod, .string z.x.hash, .int .u64 z.x.size] 50)).heap.size (wr.alloc (.cells #[.int .u64 z.x.uid, .slice z.a z.x.flags.length z.c, .int .u64 z.x.mod, .string z.x.hash, .int .u64 z.x.size] 50)) w') := hcall;have hl1 : (j : Int) < (x.rows.length : Int) := (by omega);have hlm : Hid (j < (x.rows.map LtV.x).length) := hi_ (by rw [az]; exact hlt);have hzj : Hid ((x.rows.map LtV.x)[j]'hlm.out = z.x) := hi_ (by rw [ou, hzx]);have hzf := hi_ (hxf.out z hzm);have hzz := hi_ (hxz.out z hzm);have hzS : Hid ((z.v, z.x.flags) ∈ S) := hi_ (hst.out.sub _ (hk.out.2 x hxm.out z hzm));replace hcall := hi_ hcall;replace hzb := hi_ hzb;clear hcells hrow hzx hzm hv2 hv3 hz;go_wp2_with fail;refine hcall.out.mono ?_;rintro e w1 ⟨rfl, hb1⟩;have hz2 := hzb.out.below hb1.out;generalize hB : wr.heap.size = Lb at hz2 ⊢;clear r0 r1 r2 r3 r4 hb1 hzb hcall hB;cases hgz : l_ (x.rows.map LtV.x) q z.x with
    | false =>
     have hd : Aw (x.rows.map LtV.x) q z.x = false := (by unfold Aw; rw [hgz]; rfl);have hh : Cj (x.rows.map LtV.x) q z.x = false := (by unfold Cj; rw [hgz]; rfl);have e : Hid (pz (x.rows.map LtV.x) q o (j + 1) = pz (x.rows.map LtV.x) q o j) := hi_ (by
      unfold pz;rw [Vn hlm.out (by rw [hzj.out]; exact hd), Vd hlm.out (by rw [hzj.out]; exact hh)])
     have hst2 := hi_ (hst.out.skip hlm.out (by rw [hzj.out]; unfold ut; rw [hd]; rfl) (by rw [hzj.out]; unfold qz; rw [hd]; rfl));have hz3 := hi_ hz2.tail;clear hgz hz2 hv1 hd hh hst hzj hlm;go_wp2_with fail;go_roundw;case rel => exact ⟨j + 1, ch, aU, cU, aM, cM, S, nx, by go_num, rfl, by omega, hst2, hi_ (by rw [e.out]; exact hz3.out)⟩
     case measure => simp [intOf] <;> omega
    | true =>
     obtain ⟨hbx, -⟩ := hz2.box 3 rfl;have k18 : w1.cell? ⟨wb, 18, none⟩ = some (.bool q.has) := bc_ hbx 18;have k19 : w1.cell? ⟨wb, 19, none⟩ = some (.int .u64 q.since) := bc_ hbx 19;have l2 : w1.cell? ⟨Lb, 2, none⟩ = some (.int .u64 z.x.mod) := bc_ (hz2.box 0 rfl).1 2;replace hz2 := hi_ hz2;clear hbx hv1;obtain ⟨H, hH⟩ : ∃ H, (q.has && decide (q.since < z.x.mod)) = H := ⟨_, rfl⟩;have hd : Hid (Aw (x.rows.map LtV.x) q z.x = !H) := hi_ (by unfold Aw; rw [hgz, hH]; rfl);have hh : Hid (Cj (x.rows.map LtV.x) q z.x = H) := hi_ (by unfold Cj; rw [hgz, hH]; rfl);replace hgz := hi_ hgz;go_wp2_with fail;go_cut [65] (fun v65 wx => v65 = .bool H ∧ Hid (Zoo W0 wx (df Lb [.int .u64 z.x.uid, .slice z.a z.x.flags.length z.c, .int .u64 z.x.mod, .string z.x.hash, .int .u64 z.x.size].toArray 50 :: ltT.row (.slice (some ⟨gn, 0, none⟩) x.rows.length c5) nx :: Jb c d wb (yz (x.rows.map LtV.x)) :: ik wb { k with aU := aU, cU := cU, aM := aM, cM := cM, S := S } m q y (pz (x.rows.map LtV.x) q o j))));case first =>
      cases hq1 : q.has with
      | false =>
       rw [hq1] at k18 hH;replace hH := hi_ hH;clear hq1;go_quiet (fail);go_wp2_with fail;go_meet;case rel => exact ⟨by rw [← hH.out]; rfl, hi_ (hz2.out.below (qw (ae _ _) nq))⟩
      | true =>
       rw [hq1] at k18 hH;replace hH := hi_ hH;clear hq1;go_quiet (fail);go_wp2_with fail;go_meet;case rel => exact ⟨by rw [← hH.out]; simp, hi_ (hz2.out.below (qw (ae _ _) nq))⟩
     case rest =>
      clear hz2 k18 k19 l2 hH hgz;obtain ⟨rfl, hz2⟩ := hcut;obtain ⟨us, hus⟩ : ∃ us, o.h_ ++ zg (x.rows.map LtV.x) q j = us := ⟨_, rfl⟩;obtain ⟨ms, hms⟩ : ∃ ms, o.vw ++ zf (x.rows.map LtV.x) q j = ms := ⟨_, rfl⟩;have hlen : Hid (us.length ≤ 20000) := hi_ (by
       have := bk_ (x.rows.map LtV.x) q j;rw [az] at this;rw [← hus, bz]; omega)
      have hlenM : Hid (ms.length ≤ 20000) := hi_ (by
       have := az_ (x.rows.map LtV.x) q j;rw [az] at this;rw [← hms, bz]; omega)
      have heO : pz (x.rows.map LtV.x) q o j = { o with h_ := us, vw := ms } := (by unfold pz; rw [hus, hms]);rw [heO] at hz2;replace hus := hi_ hus;replace hms := hi_ hms;clear heO;cases H with
      | true =>
       have e : Hid (pz (x.rows.map LtV.x) q o (j + 1) = { o with h_ := us, vw := ms ++ [z.x.uid] }) := hi_ (by
        unfold pz;rw [Vn hlm.out (by rw [hzj.out, hd.out]; rfl), ay_ hlm.out (by rw [hzj.out, hh.out]), hzj.out, ← jd, hus.out, hms.out])
       have hst2 := hi_ (hst.out.skip hlm.out (by rw [hzj.out]; unfold ut; rw [hd.out]; rfl) (by rw [hzj.out]; unfold qz; rw [hd.out]; rfl));clear hst hd hh hus hms hzj hlm;go_wp2_with fail;have hzd := hz2.out.drew;have s26 : wc.drew.cell? ⟨wb, 27, none⟩ = some (.slice aM ms.length cM) := bc_ (hzd.box 3 rfl).1 27;have sL : wc.drew.cell? ⟨Lb, 0, none⟩ = some (.int .u64 z.x.uid) := bc_ (hzd.box 0 rfl).1 0;refine wr_ (fun w' => w'.cell? ⟨wb, 27, none⟩ = some (.slice aM ms.length cM) ∧ w'.cell? ⟨Lb, 0, none⟩ = some (.int .u64 z.x.uid)) 10 4 ⟨s26, sL⟩ fun hok hS0 => ?_;generalize wc.drew = Wd at *;refine av hok 0 ?_;refine av hok 1 ?_;refine av hok 2 ?_;refine av hok 3 ?_;refine av hok 4 ?_;refine av hok 5 ?_;refine av hok 6 ?_;refine av hok 7 ?_;refine g_ 8 fun K hK => ?_;go_simp;have hzA := hzd.alloc (.cells (ky.enc z.x.uid).toArray 23);refine hK _ _ ⟨lg _ s26, lg _ sL⟩ ?_;clear hK K;try simp only [nrm_, Act.put]
       refine g_ 9 fun K hK => ?_;have hown1 := RT.Own.one ky Wd z.x.uid Wd.heap.size rfl;obtain ⟨F, ⟨ho1, hF⟩, -, hact⟩ := hzA.act 5 (ky.row (.slice aM ms.length cM) ms) rfl;refine ky.jv rfl (.tmp 86) (.tmp 89) rfl _ _ ms [z.x.uid] rfl rfl ho1 hown1.rd (by rw [bi]; have := hlenM.out; omega) ?_;intro v8 w8 ho8 hg8 hat8;have hz8 := hact (ky.row v8 (ms ++ [z.x.uid])) (fun k => v8.ownBlock = some k) w8 ⟨ho8, fun _ => j6⟩ (iy hF hg8 hat8);obtain ⟨a8, c8, hv8⟩ := ho8.len;subst hv8;have t26 : w8.cell? ⟨wb, 27, none⟩ = some (.slice aM ms.length cM) := bc_ (hz8.box 3 rfl).1 27;have tL : w8.cell? ⟨Lb, 0, none⟩ = some (.int .u64 z.x.uid) := bc_ (hz8.box 0 rfl).1 0;have f26 := bf_ (hz8.box 3 rfl).1 27;refine hK _ _ ⟨t26, tL⟩ ?_;clear hK K;refine kw ?_;have hz9 := hz8.il 3 rfl 27 (.slice a8 (ms ++ [z.x.uid]).length c8);replace hz9 : Hid (Zoo W0 (w8.setCell ⟨wb, 27, none⟩ (.slice a8 (ms ++ [z.x.uid]).length c8)) (ltT.row (.slice (some ⟨gn, 0, none⟩) x.rows.length c5) nx :: Jb c d wb (yz (x.rows.map LtV.x)) :: ik wb { k with aU := aU, cU := cU, aM := a8, cM := c8, S := S } m q y { o with h_ := us, vw := ms ++ [z.x.uid] })) := hi_ hz9.tail;rw [← e.out] at hz9;generalize (ms ++ [z.x.uid]).length = n8 at *;clear hz8 hact ho8 hg8 hat8 ho1 hF hown1 hzA hzd s26 sL hok hS0;go_wp2_with fail;go_roundw;case rel => exact ⟨j + 1, ch, aU, cU, a8, c8, S, nx, by go_num, rfl, by omega, hst2, hz9⟩
       case measure => simp [intOf] <;> omega
      | false =>
       have e : Hid (pz (x.rows.map LtV.x) q o (j + 1) = { o with h_ := us ++ [z.x.uid], vw := ms }) := hi_ (by
        unfold pz;rw [bj_ hlm.out (by rw [hzj.out, hd.out]; rfl), Vd hlm.out (by rw [hzj.out, hh.out]), hzj.out, ← jd, hus.out, hms.out])
       clear hh hus hms;go_wp2_with fail;have hzd := hz2.out.drew;have s26 : wc.drew.cell? ⟨wb, 26, none⟩ = some (.slice aU us.length cU) := bc_ (hzd.box 3 rfl).1 26;have sL : wc.drew.cell? ⟨Lb, 0, none⟩ = some (.int .u64 z.x.uid) := bc_ (hzd.box 0 rfl).1 0;refine wr_ (fun w' => w'.cell? ⟨wb, 26, none⟩ = some (.slice aU us.length cU) ∧ w'.cell? ⟨Lb, 0, none⟩ = some (.int .u64 z.x.uid)) 10 4 ⟨s26, sL⟩ fun hok hS0 => ?_;generalize wc.drew = Wd at *;refine av hok 0 ?_;refine av hok 1 ?_;refine av hok 2 ?_;refine av hok 3 ?_;refine av hok 4 ?_;refine av hok 5 ?_;refine av hok 6 ?_;refine av hok 7 ?_;refine g_ 8 fun K hK => ?_;go_simp;have hzA := hzd.alloc (.cells (ky.enc z.x.uid).toArray 23);refine hK _ _ ⟨lg _ s26, lg _ sL⟩ ?_;clear hK K;try simp only [nrm_, Act.put]
       refine g_ 9 fun K hK => ?_;have hown1 := RT.Own.one ky Wd z.x.uid Wd.heap.size rfl;obtain ⟨F, ⟨ho1, hF⟩, -, hact⟩ := hzA.act 4 (ky.row (.slice aU us.length cU) us) rfl;refine ky.jv rfl (.tmp 99) (.tmp 102) rfl _ _ us [z.x.uid] rfl rfl ho1 hown1.rd (by rw [bi]; have := hlen.out; omega) ?_;intro v8 w8 ho8 hg8 hat8;have hz8 := hact (ky.row v8 (us ++ [z.x.uid])) (fun k => v8.ownBlock = some k) w8 ⟨ho8, fun _ => j6⟩ (iy hF hg8 hat8);obtain ⟨a8, c8, hv8⟩ := ho8.len;subst hv8;have t26 : w8.cell? ⟨wb, 26, none⟩ = some (.slice aU us.length cU) := bc_ (hz8.box 3 rfl).1 26;have tL : w8.cell? ⟨Lb, 0, none⟩ = some (.int .u64 z.x.uid) := bc_ (hz8.box 0 rfl).1 0;have f26 := bf_ (hz8.box 3 rfl).1 26;refine hK _ _ ⟨t26, tL⟩ ?_;clear hK K;refine kw ?_;have hz9 := hz8.il 3 rfl 26 (.slice a8 (us ++ [z.x.uid]).length c8);replace hz9 : Hid (Zoo W0 (w8.setCell ⟨wb, 26, none⟩ (.slice a8 (us ++ [z.x.uid]).length c8)) (df Lb [.int .u64 z.x.uid, .slice z.a z.x.flags.length z.c, .int .u64 z.x.mod, .string z.x.hash, .int .u64 z.x.size].toArray 50 :: ltT.row (.slice (some ⟨gn, 0, none⟩) x.rows.length c5) nx :: Jb c d wb (yz (x.rows.map LtV.x)) :: ik wb { k with aU := a8, cU := c8, aM := aM, cM := cM, S := S } m q y { o with h_ := us ++ [z.x.uid], vw := ms })) := hi_ hz9;rw [← e.out] at hz9;generalize (us ++ [z.x.uid]).length = n8 at *;clear hz8 hact ho8 hg8 hat8 ho1 hF hown1 hzA hzd s26 sL hok hS0;go_wp2_with fail;generalize w8.setCell ⟨wb, 26, none⟩ (.slice a8 n8 c8) = wA at hz9 ⊢;have hzd := hz9.out.drew;have s16 : wA.drew.cell? ⟨wb, 16, none⟩ = some (.slice y.af q.flags.length y.cf) := bc_ (hzd.box 3 rfl).1 16;have s17 : wA.drew.cell? ⟨wb, 17, none⟩ = some (.int .i64 q.how) := bc_ (hzd.box 3 rfl).1 17;have sL : wA.drew.cell? ⟨Lb, 1, none⟩ = some (.slice z.a z.x.flags.length z.c) := bc_ (hzd.box 0 rfl).1 1;have hch : Hid (Calls prog 92 #[.slice z.a z.x.flags.length z.c, .int .i64 q.how, .slice y.af q.flags.length y.cf] wA.drew (Wu z.x.flags q.how q.flags wA.drew)) := hi_ (Yl z.v (.slice y.af q.flags.length y.cf) z.x.flags q.flags q.how wA.drew (hzd.fl 9 rfl hzS.out) (jf hin.out.2 hzd.bel) (by have := hzf.out; omega) (by have := hq.out.fl; omega) hzz.out hq.out.sz);clear t26 tL f26;refine wr_ (fun w' => w'.cell? ⟨wb, 16, none⟩ = some (.slice y.af q.flags.length y.cf) ∧ w'.cell? ⟨wb, 17, none⟩ = some (.int .i64 q.how) ∧ w'.cell? ⟨Lb, 1, none⟩ = some (.slice z.a z.x.flags.length z.c)) 17 1 ⟨s16, s17, sL⟩ fun hok hS0 => ?_;generalize wA.drew = Wd at *;refine av hok 0 ?_;refine av hok 1 ?_;refine av hok 2 ?_;refine av hok 3 ?_;refine av hok 4 ?_;refine av hok 5 ?_;refine av hok 6 ?_;refine av hok 7 ?_;refine av hok 8 ?_;refine av hok 9 ?_;refine av hok 10 ?_;refine av hok 11 ?_;refine g_ 12 fun K hK => ?_;go_simp;refine hch.out.mono ?_;rintro e w6 ⟨v6, rfl, hh6, hb6⟩;dsimp only;obtain ⟨a6, c6, hv6, -⟩ := id hh6.out;have hz6 := hzd.gt_ 9 rfl hb6.out hh6.out;subst hv6;generalize hF : Ao z.x.flags q.how q.flags = F at *;generalize hC : zl z.x.flags q.how q.flags = C at *;replace hz6 : Zoo W0 w6 (df Lb [.int .u64 z.x.uid, .slice z.a z.x.flags.length z.c, .int .u64 z.x.mod, .string z.x.hash, .int .u64 z.x.size].toArray 50 :: ltT.row (.slice (some ⟨gn, 0, none⟩) x.rows.length c5) nx :: Jb c d wb (yz (x.rows.map LtV.x)) :: ik wb { k with aU := a8, cU := c8, aM := aM, cM := cM, S := (.slice a6 F.length c6, F) :: S } m q y (pz (x.rows.map LtV.x) q o (j + 1))) := hz6;have s16 : w6.cell? ⟨wb, 16, none⟩ = some (.slice y.af q.flags.length y.cf) := bc_ (hz6.box 3 rfl).1 16;have s17 : w6.cell? ⟨wb, 17, none⟩ = some (.int .i64 q.how) := bc_ (hz6.box 3 rfl).1 17;have sL : w6.cell? ⟨Lb, 1, none⟩ = some (.slice z.a z.x.flags.length z.c) := bc_ (hz6.box 0 rfl).1 1;refine hK _ _ ⟨s16, s17, sL⟩ ?_;have hS6 : w6.cell? ⟨wb, 16, none⟩ = some (.slice y.af q.flags.length y.cf) ∧ w6.cell? ⟨wb, 17, none⟩ = some (.int .i64 q.how) ∧ w6.cell? ⟨Lb, 1, none⟩ = some (.slice z.a z.x.flags.length z.c) := ⟨s16, s17, sL⟩;clear hK K hch hh6 hb6 hzd hz9 hS0;replace hF := hi_ hF;replace hC := hi_ hC;refine av hok 13 ?_;refine av hok 14 ?_;refine av hok 15 ?_;refine av hok 16 ?_;refine kw ?_;clear hS6 hok s16 s17;have hok6 : Hid (wm { k with aU := a8, cU := c8, aM := aM, cM := cM, S := (.slice a6 F.length c6, F) :: S } m) := hi_ ⟨hk.out.1, fun bx hbx w hw => jh _ (hst.out.sub _ (hk.out.2 bx hbx w hw))⟩;by_cases hC0 : C = 0
       ·subst hC0;have hnf : Hid (qz (x.rows.map LtV.x) q z.x = false) := hi_ (by unfold qz; rw [hC.out, hd.out]; rfl);have hF40 : Hid (F.length * 16 ≤ 140737488355328) := hi_ (by have := Ro z.x.flags q.how q.flags; rw [hF.out] at this; omega);have heq : Hid (Calls prog 59 #[.slice a6 F.length c6, .slice z.a z.x.flags.length z.c] w6 fun e w' => e = .returned (.bool (decide (F = z.x.flags))) ∧ Hid (Below w6.heap.size w6 w')) := hi_ (Rm (.slice a6 F.length c6) z.v F z.x.flags w6 (hz6.fl 9 rfl (wu ..)) (hz6.fl 9 rfl (jh _ hzS.out)) hF40.out (by have := hzf.out; omega));replace hz6 := hi_ hz6;go_wp2_with fail;refine heq.out.mono ?_;rintro e w7 ⟨rfl, hb7⟩;have hz7 := hz6.out.below hb7.out;have hnxl : nx.length = x.rows.length := (by have := hst.out.len; rwa [az] at this);have hjn : j < nx.length := (by omega);have hat : (nx[j]'hjn).x = z.x := (by rw [hst.out.at_ hlm.out, hzj.out]);by_cases hFe : F = z.x.flags
        ·have hst2 := hi_ ((hst.out.skip hlm.out (by rw [hzj.out]; unfold ut; rw [hF.out, b_ hFe]; simp) (by rw [hzj.out]; exact hnf.out)).more (.slice a6 F.length c6, F));have hFd : decide (F = z.x.flags) = true := b_ hFe;replace hz7 := hi_ hz7.tail;clear hFe heq hb7 hz6 hst hd hzj hlm hC hF hzS hzz hzf e hnf hat hnxl hjn hok6;rw [hFd];clear hFd;go_wp2_with fail;go_roundw;case rel => exact ⟨j + 1, ch, a8, c8, aM, cM, _, nx, by go_num, rfl, by omega, hst2, hz7⟩
         case measure => simp [intOf] <;> omega
        have hFd : decide (F = z.x.flags) = false := aj hFe;rw [hFd];clear hFd;obtain ⟨z', hz'⟩ : ∃ z' : LtV, (⟨{ z.x with flags := F, mod := x.high + 1 }, a6, c6⟩ : LtV) = z' := ⟨_, rfl⟩;have hst2 := hst.out.turn hlm.out (by rw [hzj.out]; unfold ut; rw [hF.out, hd.out, aj hFe]; rfl) (by rw [hzj.out]; exact hnf.out) z' (by rw [← hz', hzj.out, hF.out]);have hp' : (z'.v, z'.x.flags) = (Value.slice a6 F.length c6, F) := (by rw [← hz']; rfl);rw [hp'] at hst2;replace hst2 := hi_ hst2;obtain ⟨z1, hz1⟩ : ∃ z1 : LtV, (⟨{ z.x with flags := F }, a6, c6⟩ : LtV) = z1 := ⟨_, rfl⟩;obtain ⟨g', capn, hv, -, hgn, hcn, hfn, hz8⟩ := hz7.Fh 1 rfl j hjn 1 (by decide) (.slice a6 F.length c6) z1 (by
         rw [← hz1];show nz _ = (nz (nx[j]'hjn)).set 1 _;unfold nz;rw [hat];rfl)
        injection hv with hv hvb hvc;clear hvb hvc;injection hv with hv;injection hv with hv;subst hv;have n1 := hcn 1 (by decide);have n2 : w7.cell? ⟨gn, j * 5 + 2, none⟩ = some (.int .u64 (nx[j]'hjn).x.mod) := hcn 2 (by decide);replace n1 : w7.cell? ⟨gn, j * 5 + 1, none⟩ = some (nx[j]'hjn).v := n1;rw [hat] at n2;generalize (nx[j]'hjn).v = oldv at n1;have m1 := hfn (j * 5 + 1);have m2 := hfn (j * 5 + 2);have hz8' : Zoo W0 (w7.setCell ⟨gn, j * 5 + 1, none⟩ (.slice a6 F.length c6)) (df Lb [.int .u64 z.x.uid, .slice z.a z.x.flags.length z.c, .int .u64 z.x.mod, .string z.x.hash, .int .u64 z.x.size].toArray 50 :: ltT.row (.slice (some ⟨gn, 0, none⟩) x.rows.length c5) (nx.set j z1) :: Jb c d wb (yz (x.rows.map LtV.x)) :: ik wb { k with aU := a8, cU := c8, aM := aM, cM := cM, S := (.slice a6 F.length c6, F) :: S } m q y (pz (x.rows.map LtV.x) q o (j + 1))) := hz8;obtain ⟨g9, cap9, hv9, -, -, -, -, hz9⟩ := hz8'.Fh 1 rfl j (by rw [gq]; exact hjn) 2 (by decide) (.int .u64 ((x.high : Int) + 1)) z' (by
         rw [Cc, ← hz', ← hz1];rfl)
        injection hv9 with hv9 hvb hvc;clear hvb hvc;injection hv9 with hv9;injection hv9 with hv9;subst hv9;replace hz9 : Zoo W0 ((w7.setCell ⟨gn, j * 5 + 1, none⟩ (.slice a6 F.length c6)).setCell ⟨gn, j * 5 + 2, none⟩ (.int .u64 ((x.high : Int) + 1))) (df Lb [.int .u64 z.x.uid, .slice z.a z.x.flags.length z.c, .int .u64 z.x.mod, .string z.x.hash, .int .u64 z.x.size].toArray 50 :: ltT.row (.slice (some ⟨gn, 0, none⟩) x.rows.length c5) ((nx.set j z1).set j z') :: Jb c d wb (yz (x.rows.map LtV.x)) :: ik wb { k with aU := a8, cU := c8, aM := aM, cM := cM, S := (.slice a6 F.length c6, F) :: S } m q y (pz (x.rows.map LtV.x) q o (j + 1))) := hz9;rw [Qa] at hz9;replace hz9 := hi_ hz9.tail;obtain ⟨g', hg', hglt, hbox, hfr⟩ := ug hz7.tail.tail.tail rfl hil;obtain rfl : g = g' := (by have h := hg.out.symm.trans hg'; injection h with h; injection h);rw [show ({ k with aU := a8, cU := c8, aM := aM, cM := cM, S := (.slice a6 F.length c6, F) :: S } : WkV).bs[i] = x from hx.out] at hbox;have b3 := hbox.c3;have hxh3 : x.high + 1 < 18446744073709551616 := (by omega);have hj0 : (0 : Int) ≤ (j : Int) := (by omega);clear hz7 hz8 hz8' hcn hfn hg' hbox hfr hFe heq hb7 hz6 hst hd hzj hlm hC hF hzS hzz hzf e hnf hat hnxl hok6 hz' hz1 hp';generalize F.length = Fn at *;go_wp2_with fail;go_roundw;case rel => exact ⟨j + 1, true, a8, c8, aM, cM, _, nx.set j z', by go_num, rfl, by omega, hst2, hz9⟩
        case measure => simp [intOf] <;> omega
       have hne : ((C : Int) != 0) = true := (by simp; omega);have hr : Hid (pg m q o = (7, m, o)) := hi_ (by
        rw [hr0.out, dh];refine Gt.2 ⟨z.x, by rw [← hzj.out]; exact bg _, ?_⟩;unfold qz;rw [hd.out, hC.out, aj hC0]; rfl)
       replace hz6 := hi_ hz6.tail.tail.tail;clear hst hd hzj hlm hC0 hC hF hzS hzz hzf e;go_wp2_with fail;go_ret;exact Az.of hr.out (fun h => by cases h) ⟨_, rfl, hok6, hz6⟩
   obtain rfl : j = x.rows.length := (by omega);have hll : x.rows.length = (x.rows.map LtV.x).length := (az ..).symm;have hst1 := hst.out;rw [hll] at hst1;have hnl : nx.length = x.rows.length := (by have := hst1.len; rwa [az] at this);have hnow := hst1.now;rw [gp, wy, jy] at hnow;have hch := hst1.ch;have hgood := hst1.good;rw [gp] at hch hgood;have hl1 : (x.rows.length : Int) ≤ (x.rows.length : Int) := (by omega);have hok2 : Hid (wm { k with aU := aU, cU := cU, aM := aM, cM := cM, S := S } m) := hi_ ⟨hk.out.1, fun bx hbx w hw => hst1.sub _ (hk.out.2 bx hbx w hw)⟩;have hrA : pg m q o = (if ch = false then (0, m, pz (x.rows.map LtV.x) q o x.rows.length)
      else if 9223372036854775807 ≤ x.high then (13, m, o)
      else (0, qj m i { x.b with high := x.high + 1, letters := nx.map LtV.x }, pz (x.rows.map LtV.x) q o x.rows.length)) := by
    rw [hr0.out, bq (by rw [hgood]; simp), ← hch, hnow]
   obtain ⟨g', hg', hglt, hbox, hfr⟩ := ug hz.out.tail.tail rfl hil;obtain rfl : g = g' := (by have h := hg.out.symm.trans hg'; injection h with h; injection h);rw [show ({ k with aU := aU, cU := cU, aM := aM, cM := cM, S := S } : WkV).bs[i] = x from hx.out] at hbox;have b3 := hbox.c3;have b4 := hbox.c4;have f3 := hfr (i * 5 + 3);have f4 := hfr (i * 5 + 4);cases ch with
   | false =>
    have hr : Hid (pg m q o = (0, m, pz (x.rows.map LtV.x) q o x.rows.length)) := hi_ (by rw [hrA, dh rfl]);replace hz := hi_ hz.out.tail.tail;clear hrA hr0 hch hgood hnow hst1 hst hnl hg' hbox hfr hll;go_wp2_with fail;go_ret;exact Az.of hr.out (fun _ => rfl) ⟨_, rfl, hok2, hz⟩
   | true =>
    rw [bq (by simp)] at hrA;by_cases hhi : 9223372036854775807 ≤ x.high
    ·have hhi2 : (9223372036854775807 : Int) ≤ (x.high : Int) := (by omega);have hr : Hid (pg m q o = (13, m, o)) := hi_ (by rw [hrA, dh hhi]);replace hz := hi_ hz.out.tail.tail;clear hrA hr0 hch hgood hnow hst1 hst hnl hg' hbox hfr hll;go_wp2_with fail;go_ret;exact Az.of hr.out (fun h => by cases h) ⟨_, rfl, hok2, hz⟩
    have hhi2 : decide ((9223372036854775807 : Int) ≤ (x.high : Int)) = false := aj (by omega);have hhi3 : x.high + 1 < 18446744073709551616 := (by omega);have hr : Hid _ := hi_ (hrA.trans (bq hhi));obtain ⟨x1, hx1e⟩ : ∃ x1 : BxV, { x with rows := nx, a := some ⟨gn, 0, none⟩, c := c5 } = x1 := ⟨_, rfl⟩;have hz6 := (hz.out.sub (gz _ (j_ _ (j4 _)))).hy_ (i + 7) (jl.1 (xn (wb := wb) (k := { k with aU := aU, cU := cU, aM := aM, cM := cM, S := S }) (m := m) (q := q) (y := y) (o := pz (x.rows.map LtV.x) q o x.rows.length) i hil)).1;have hz6' : Zoo W0 wr ((ik wb { k with aU := aU, cU := cU, aM := aM, cM := cM, S := S } m q y (pz (x.rows.map LtV.x) q o x.rows.length)).set (i + 7) (ltT.row x1.v x1.rows)) := by
     rw [← hx1e];show Zoo W0 wr ((ik wb { k with aU := aU, cU := cU, aM := aM, cM := cM, S := S } m q y (pz (x.rows.map LtV.x) q o x.rows.length)).set (i + 7) (ltT.row (.slice (some ⟨gn, 0, none⟩) nx.length c5) nx));rw [hnl];exact hz6
    have hz7 := Mh (k := { k with aU := aU, cU := cU, aM := aM, cM := cM, S := S }) hil x1 hz6' hg.out 4 (by decide) (.slice (some ⟨gn, 0, none⟩) x.rows.length c5) (by
     rw [← hx1e, ← hnl];show _ = (bxT.enc (k.bs[i]'hil)).set 4 _;rw [hx.out];rfl)
    have hxl1 : Hg S x1.rows := (by rw [← hx1e]; exact hst1.has);obtain ⟨k2, m2, hk2, hm2, hok3, hg2, hil2, hx2⟩ := hok2.out.bump hil x1 hxl1;rw [hk2, hm2] at hz7;have hx2' := hx2 hil2;have hz8 := Mg (k := k2) hil2 { x1 with high := x.high + 1 } hz7 (by rw [hx2']) (by rw [hx2']; rfl) (hg2.trans hg.out) 3 (by decide) (.int .u64 ((x.high : Int) + 1)) (by rw [hx2', ← hx1e]; rfl);have hok4 := wm.set (i := i) hok3 { x1 with high := x.high + 1 } (by rw [← hk2]; exact hxl1);have hm3 : qj m2 i ({ x1 with high := x.high + 1 } : BxV).b = qj m i { x.b with high := x.high + 1, letters := nx.map LtV.x } := by
     rw [← hm2, ← hx1e, Og];rfl
    rw [hm3] at hz8 hok4;replace hz8 := hi_ hz8;replace hok4 := hi_ hok4;clear hz7 hz6 hz6' hbox hfr hg' hx1e hxl1 hk2 hm2 hok3 hg2 hx2 hx2' hm3 hok2 hz hrA hr0 hch hgood hnow hst1 hst hnl hll;go_wp2_with fail;go_ret;exact Az.of hr.out (fun _ => rfl) ⟨_, rfl, hok4, hz8⟩
end
section
open Go.RowKit Go.Maps Go.WideMaps Go.Sort Go.Lib
theorem fe_ (F cur : Array Value) (hc : F.size ≤ cur.size) : (putCells id 0 F cur).toList = F.toList ++ cur.toList.drop F.size := by
 apply Fa;intro t;rw [ze];unfold putCells;rw [Qz];by_cases ht : t < F.size
 ·rw [ng (show t < cur.size by omega), ko (by simpa using ht), ze, ng ht];simp only [Bi, dw, true_and, di, Nat.sub_zero];rw [dh ht, getElem!_pos F t ht]; rfl
 rw [lu (by simpa using ht), List.getElem?_drop, ze, show F.size + (t - F.toList.length) = t from by simp; omega];by_cases h2 : t < cur.size
 ·rw [ng h2];simp only [Bi, dw, true_and, di];rw [bq ht]
 rw [Fb (by omega)]; rfl
theorem ba_ {W : World} {g : Nat} {cur : Array Value} {t : TypeId} (h : W.heap[g]? = some (.cells cur t (0, 0))) (n : Nat) (F : Array Value) (os : Array Obj) :
  (grow (putRow id (Sort.ahead W n) g 0 F) os).heap[g]? = some (.cells (putCells id 0 F cur) t (0, 0)) ∧ W.heap.size ≤ (grow (putRow id (Sort.ahead W n) g 0 F) os).heap.size ∧ ∀ k, k < W.heap.size → k ≠ g → (grow (putRow id (Sort.ahead W n) g 0 F) os).heap[k]? = W.heap[k]? := by
 have hg := (bv.1 h).1;have hold : ∀ k, k < W.heap.size → (grow (putRow id (Sort.ahead W n) g 0 F) os).heap[k]? = (putRow id (Sort.ahead W n) g 0 F).heap[k]? := fun k hk => by
  show ((putRow id (Sort.ahead W n) g 0 F).heap ++ os)[k]? = _;rw [Array.getElem?_append_left (by rw [Sort.size_putRow]; exact hk)]
 refine ⟨?_, ?_, fun k hk hne => ?_⟩
 ·rw [hold g hg];show (W.heap.modify g _)[g]? = _;rw [Gc, dh rfl, h]; rfl
 ·show _ ≤ ((putRow id (Sort.ahead W n) g 0 F).heap ++ os).size;rw [Array.size_append, Sort.size_putRow]; exact Nat.le_add_right _ _
 rw [hold k hk];show (W.heap.modify g _)[k]? = _;rw [Gc, bq (fun h => hne h.symm)]
section
variable {α : Type} [Inhabited α] (R : RT α)
theorem RT.flat (l : List α) : (flatK R.enc R.K l.toArray).toList = R.cells l := by
 apply Fa;intro t;have hl := R.kg l;have hK := R.pos;by_cases ht : t < l.length * R.K
 ·obtain ⟨j, r, hr, rfl⟩ : ∃ j r, r < R.K ∧ t = j * R.K + r := ⟨t / R.K, t % R.K, Gs _ hK, by rw [Cy]; exact (Qd t R.K).symm⟩;have hj : j < l.length := by
   rcases oo j l.length with h | h
   ·exact h
   have := kz R.K h; omega
  rw [R.yo l j hj r hr];have h1 : (flatK R.enc R.K l.toArray).size = l.length * R.K := by simp
  have h2 := get_flatK R.enc R.K l.toArray (j * R.K + r) (by simpa using ht);rw [getElem!_pos _ _ (by omega)] at h2;rw [ze, ng (by omega), h2];have e1 : (j * R.K + r) / R.K = j := by rw [Cy, Nat.mul_add_div hK, Nat.div_eq_of_lt hr, Cz]
  have e2 : (j * R.K + r) % R.K = r := by rw [Cy, Nat.mul_add_mod, Nat.mod_eq_of_lt hr]
  rw [e1, e2, getElem!_pos _ j (by simpa using hj)];simp only [List.getElem_toArray];rw [getElem!_pos _ r (by rw [R.len]; exact hr)];exact (ay (by rw [R.len]; exact hr)).symm
 rw [zb (by simp; omega), zb (by omega)]
theorem RT.sort {ρ : Go.Shelf.Ren} (L0 : SlLaysF0.n6 prog ρ) (ht : ρ.t 24 = R.t) (hagg : ∀ w, (isAgg R.t).run prog w = .ok true w) (hsz : ∀ w, (Go.sizeOf R.t).run prog w = .ok R.K w) (cf : α → α → Int) (hO : SWO (ltOf cf)) (fn : FuncId) (eg : ∀ args w, (callFunc fn args).run prog w = .ok (.enter fn args) w)
  (hcmp : ∀ x y W, Calls prog fn #[.agg (R.enc x).toArray, .agg (R.enc y).toArray] W fun e w' => e = .returned (.int .i64 (cf x y)) ∧ ∃ q os', w' = grow (W.drewN q) os')
  {W0 W : World} {L : List Th} {v : Value} {l : List α} (hz : Zoo W0 W (R.row v l :: L)) (hpos : 0 < l.length) (hlen : l.length ≤ 1000) :
  Calls prog (ρ.f 6) #[v, .func (.func fn) #[] #[]] W fun e w' => e = .returned (.tuple #[]) ∧ ∃ l' : List α, Hid (l'.Perm l ∧ l'.Pairwise (fun x y => ltOf cf y x = false)) ∧ Hid (Zoo W0 w' (R.row v l' :: L)) := by
 obtain ⟨F, ⟨ho, hF⟩, -, hact⟩ := hz.act 0 (R.row v l) rfl;obtain ⟨g, cap, rest, rfl, hc, hgl, hrow, hback⟩ := ho.row hpos;have hblk : W.heap[g]? = some (.cells (R.cells l ++ rest).toArray R.t (0, 0)) := hrow;have hH : HoldsK R.enc R.K W g 0 l.toArray := by
  intro j hj;have hj' : j < l.length * R.K := by simpa using hj
  refine ⟨?_, free_at hblk _⟩;rw [di, Kt hblk];have e := R.flat l;rw [ai, ko (by rw [R.kg]; exact hj'), ← e, ze, ng hj, getElem!_pos _ j hj]; rfl
 have hcon := AnyQ.slices_SortFunc L0 R.K (by rw [ht]; exact hagg) (by rw [ht]; exact hsz) R.enc R.len (fun x v hv => R.one x v hv) cf hO fn #[] g 0 cap l.toArray W eg (fun _ _ _ _ x y => hcmp x y _) hH hgl (by simp; omega);rw [show l.toArray.size = l.length from by simp] at hcon;refine hcon.mono ?_;rintro e w' ⟨rfl, d', n, os, hp, hs, rfl⟩;have hds : d'.size = l.length := by simpa using hp.1
 have hfs : (flatK R.enc R.K d').size = l.length * R.K := by rw [size_flatK, hds]
 have hfr : (flatK R.enc R.K d').toList = R.cells d'.toList := by
  have := R.flat d'.toList;rwa [Array.toArray_toList] at this
 obtain ⟨g1, g2, g3⟩ := ba_ hblk n (flatK R.enc R.K d') os;have hnow : putCells id 0 (flatK R.enc R.K d') (R.cells l ++ rest).toArray = (R.cells d'.toList ++ rest).toArray := by
  apply Array.toList_inj.1;rw [fe_ _ _ (by rw [hfs]; simp [R.kg]), hfr, hfs];show _ ++ (R.cells l ++ rest).drop _ = _;rw [← R.kg, List.drop_left]
 have hdl : d'.toList.length = l.length := by simpa using hds
 rw [hnow] at g1;have h2 := hback _ d'.toList l.length (ax _) hdl g1;rw [jr (by omega)] at h2;refine ⟨rfl, d'.toList, hi_ ⟨?_, ?_⟩, hi_ (hact _ F _ ⟨h2, hF⟩ ⟨rfl, rfl, rfl, g2, fun k hk hn => g3 k hk (fun e => hn ((hF k).2 (by rw [e]; rfl))), fun k hk => .inl hk⟩)⟩
 ·have h3 := hp.2.2;have e1 : (d'.extract 0 l.length).toList = d'.toList := by rw [← hds, Array.extract_size]
  have e2 : (l.toArray.extract 0 l.length).toList = l := by simp
  rwa [e1, e2] at h3
 refine gm.2 fun i j hi hj hij => ?_;have h3 := hs i j (dw _) hij (by simp at hj ⊢; omega);rw [getElem!_pos _ _ (by simpa using hj), getElem!_pos _ _ (by simpa using hi)] at h3;simp only [Array.getElem_toList];exact h3
end
end
section
open Go.RowKit Go.Maps Go.WideMaps Go.Sort Go.Lib
attribute [local go_sem ↓] Go.wp_at_zero Go.wp_at_succ
abbrev BHm := {h : Hm // 0 ≤ h.node ∧ h.node ≤ 1000000}
instance : Inhabited BHm := ⟨⟨⟨0, 0, 0⟩, by decide⟩⟩
def hmB : RT BHm where
 enc := fun x => y8 x.1
 K := 3
 t := hmT.t
 ts := hmT.ts
 z := hmT.z
 bytes := hmT.bytes
 len := fun _ => rfl
 one := fun x => hmT.one x.1
 pos := by decide
 und := hmT.und
 info := hmT.info
 zs := hmT.zs
 bb := hmT.bb
theorem aw_ (l : List BHm) : hmB.cells l = hmT.cells (l.map (·.1)) := by
 unfold RT.cells;rw [List.flatMap_map]; rfl
theorem Ze (v : Value) (l : List BHm) : hmB.row v l = hmT.row v (l.map (·.1)) := by
 have : ∀ W, hmB.Own W v l ↔ hmT.Own W v (l.map (·.1)) := fun W => by
  unfold RT.Own;rw [aw_, az]; rfl
 unfold RT.row;congr 1;funext F W;rw [this W]
theorem Zb : ∀ l : List Hm, (∀ h ∈ l, 0 ≤ h.node ∧ h.node ≤ 1000000) → ∃ l' : List BHm, l'.map (·.1) = l
 | [], _ => ⟨[], rfl⟩
 | p :: l, h => by
  obtain ⟨l', e⟩ := Zb l (fun q hq => h q (by simp [hq]));exact ⟨⟨p, h p (by simp)⟩ :: l', by simp [e]⟩
def cfH (x y : BHm) : Int := x.1.node - y.1.node
theorem ltH (x y : BHm) : ltOf cfH x y = decide (x.1.node < y.1.node) := by
 unfold ltOf cfH;congr 1;exact propext ⟨fun h => by omega, fun h => by omega⟩
theorem hw_ : SWO (ltOf cfH) where
 irrefl x := by rw [ltH]; simp
 trans x y z h1 h2 := by rw [ltH] at *; simp at *; omega
 ntrans x y z h1 h2 := by rw [ltH] at *; simp at *; omega
set_option maxHeartbeats 1000000 in
theorem dy_ (x y : BHm) (W : World) : Calls prog 113 #[.agg (hmB.enc x).toArray, .agg (hmB.enc y).toArray] W fun e w' => e = .returned (.int .i64 (cfH x y)) ∧ ∃ q os', w' = grow (W.drewN q) os' := by
 obtain ⟨x, hx⟩ := x;obtain ⟨y, hy⟩ := y;unfold cfH;have hw : wrap64 (x.node - y.node) = x.node - y.node := IntWalk.wrap64_in _ (by omega);show Calls prog 113 #[.agg #[.int .i64 x.node, .int .u64 x.life, .int .u64 x.ek], .agg #[.int .i64 y.node, .int .u64 y.life, .int .u64 y.ek]] W _;go_enter func113, ntmps113;go_wp2_with fail;go_ret;refine ⟨rfl, 0, _, by rw [alloc_eq_grow, alloc_eq_grow, grow_grow]; rfl⟩
def Ja (a b : Hm) : Bool := decide (a.node < b.node)
theorem Z_ {W0 W : World} {L : List Th} {v : Value} {l : List Hm} (hz : Zoo W0 W (hmT.row v l :: L)) (hb : ∀ h ∈ l, 0 ≤ h.node ∧ h.node ≤ 1000000) (hpos : 0 < l.length) (hlen : l.length ≤ 1000) :
  Calls prog 112 #[v, .func (.func 113) #[] #[]] W fun e w' => e = .returned (.tuple #[]) ∧ ∃ l' : List Hm, Hid (l'.Perm l ∧ l'.Pairwise (fun x y => x.node ≤ y.node)) ∧ Hid (Zoo W0 w' (hmT.row v l' :: L)) := by
 obtain ⟨lb, rfl⟩ := Zb l hb;rw [← Ze] at hz;have eg : ∀ args w, (callFunc 113 args).run prog w = .ok (.enter 113 args) w := enters_of func113 (by kernel_rfl) rfl;have hcon := hmB.sort sortH rfl isAgg67 sizeOf67 cfH hw_ 113 eg dy_ hz (by simpa using hpos) (by simpa using hlen);change Calls prog 112 _ _ _ at hcon;refine hcon.mono ?_;rintro e w' ⟨rfl, l', h1, h2⟩;refine ⟨rfl, l'.map (·.1), hi_ ⟨h1.out.1.map _, ?_⟩, hi_ (by rw [← Ze]; exact h2.out)⟩;rw [List.pairwise_map];refine h1.out.2.imp (fun {x y} h => ?_);rw [ltH] at h;have := f_ h;omega
def um (m : Ml) (at_ : Int) (h : Hm) : Ml := if 0 ≤ at_ then { m with homes := m.homes.set at_.toNat h } else { m with homes := uh Ja h m.homes }
theorem Xw {l : List Hm} (h : Hm) (hs : l.Pairwise (fun x y => x.node < y.node)) (hn : ∀ x ∈ l, x.node ≠ h.node) {l' : List Hm} (hp : l'.Perm (l ++ [h])) (hw : l'.Pairwise (fun x y => x.node ≤ y.node)) : l' = uh Ja h l := by
 have hmem : ∀ x, x ∈ uh Ja h l ↔ x = h ∨ x ∈ l := fun x => xw Ja h x l;have key : ∀ (l : List Hm), l.Pairwise (fun x y => x.node < y.node) → (∀ x ∈ l, x.node ≠ h.node) → (uh Ja h l).Pairwise (fun x y => x.node ≤ y.node) ∧ (uh Ja h l).Perm (l ++ [h]) := by
  intro l;induction l with
  | nil => intro _ _; exact ⟨by simp [uh], by simp [uh]⟩
  | cons a r ih =>
   intro h1 h2;have h1' := jg.1 h1;obtain ⟨i1, i2⟩ := ih h1'.2 (fun x hx => h2 x (by simp [hx]));unfold uh;by_cases hlt : Ja h a = true
   ·rw [dh hlt];unfold Ja at hlt;have hlt' := dm hlt;refine ⟨jg.2 ⟨fun y hy => ?_, h1.imp (fun h => by omega)⟩, (qx _ _).symm⟩;rcases d_.1 hy with rfl | hy
    ·omega
    have := h1'.1 y hy; omega
   rw [bq hlt];have hge : a.node ≤ h.node := by
    unfold Ja at hlt;simp at hlt;exact hlt
   refine ⟨jg.2 ⟨fun y hy => ?_, i1⟩, i2.cons a⟩;rcases (xw Ja h y r).1 hy with rfl | hy
   ·exact hge
   have := h1'.1 y hy; omega
 obtain ⟨k1, k2⟩ := key l hs hn;have hinj : ∀ x ∈ l ++ [h], ∀ y ∈ l ++ [h], x.node = y.node → x = y := by
  intro x hx y hy hxy;rcases fe.1 hx with hx | hx <;> rcases fe.1 hy with hy | hy
  ·obtain ⟨i, hi, rfl⟩ := gu.1 hx;obtain ⟨j, hj, rfl⟩ := gu.1 hy;rcases La i j with h3 | h3 | h3
   ·have := gm.1 hs i j hi hj h3; omega
   ·subst h3; rfl
   have := gm.1 hs j i hj hi h3; omega
  ·rw [dx.1 hy] at hxy; exact absurd hxy (hn x hx)
  ·rw [dx.1 hx] at hxy; exact absurd hxy.symm (hn y hy)
  rw [dx.1 hx, dx.1 hy]
 exact Md (le := fun x y : Hm => x.node ≤ y.node) (fun x y hx hy h1 h2 => hinj x (hp.mem_iff.1 hx) y (k2.mem_iff.1 hy) (by omega)) hw k1 (hp.trans k2.symm)
end
section
open Go.RowKit
attribute [local go_sem ↓] Go.wp_at_zero Go.wp_at_succ
def Zn (W0 : World) (wb : Nat) (k : WkV) (m' : Ml) (q : Rq) (y : RqV) (o : Oc) (E : List Th) (e : Ending) (w' : World) : Prop := ∃ ah ch, e = .returned (.tuple #[]) ∧ Hid (Zoo W0 w' (ik wb { k with ah := ah, ch := ch } m' q y o ++ E))
set_option maxRecDepth 100000 in
set_option maxHeartbeats 8000000 in
theorem Xh {W0 W : World} {wb : Nat} {k : WkV} {m : Ml} {q : Rq} {y : RqV} {o : Oc} {E : List Th} (at_ : Int) (h : Hm) (hz : Zoo W0 W (ik wb k m q y o ++ E)) (hl : m.homes.length ≤ 100) (h1 : 0 ≤ at_ → at_.toNat < m.homes.length)
  (h2 : at_ < 0 → m.homes.Pairwise (fun x y => x.node < y.node) ∧ (∀ x ∈ m.homes, x.node ≠ h.node) ∧ (∀ x ∈ m.homes, 0 ≤ x.node ∧ x.node ≤ 1000000) ∧ 0 ≤ h.node ∧ h.node ≤ 1000000) :
  Calls prog 80 #[.pointer (some ⟨wb, 0, none⟩), .int .i64 at_, .agg (hmT.enc h).toArray] W (Zn W0 wb k (um m at_ h) q y o E) := by
 have hz1 := (hz.dz [.int .i64 h.node, .int .u64 h.life, .int .u64 h.ek].toArray 67).drew;generalize hB : W.heap.size = B at hz1;generalize hW1 : (W.alloc (.cells [.int .i64 h.node, .int .u64 h.life, .int .u64 h.ek].toArray 67)) = W1 at hz1;obtain ⟨hb0, -⟩ := hz1.box 0 rfl;obtain ⟨hbx, -⟩ := hz1.box 1 rfl;have c0 : W1.drew.cell? ⟨B, 0, none⟩ = some (.int .i64 h.node) := bc_ hb0 0;have c1 : W1.drew.cell? ⟨B, 1, none⟩ = some (.int .u64 h.life) := bc_ hb0 1;have c2 : W1.drew.cell? ⟨B, 2, none⟩ = some (.int .u64 h.ek) := bc_ hb0 2;have k2 : W1.drew.cell? ⟨wb, 2, none⟩ = some (.slice k.ah m.homes.length k.ch) := bc_ hbx 2;clear hb0 hbx hz;show Calls prog 80 #[.pointer (some ⟨wb, 0, none⟩), .int .i64 at_, .agg #[.int .i64 h.node, .int .u64 h.life, .int .u64 h.ek]] W _;by_cases hat : 0 ≤ at_
 ·have hi := h1 hat;obtain ⟨i, rfl⟩ : ∃ i : Nat, at_ = (i : Int) := ⟨at_.toNat, by omega⟩;replace hi : i < m.homes.length := by simpa using hi
  have hm : um m (i : Int) h = { m with homes := m.homes.set i h } := by unfold um; rw [dh hat]; rfl
  rw [hm];obtain ⟨g, cap, hv, -, hcells, hfr, hz2⟩ := hz1.lay 5 rfl [h] i (by show i + 1 ≤ _; omega) (by omega);injection hv with hv1 hv2 hv3;rw [hv1] at k2;have hset : m.homes.take i ++ [h] ++ m.homes.drop (i + 1) = m.homes.set i h := by
   rw [jd, List.set_eq_take_append_cons_drop, dh hi]; rfl
  replace hz2 : Zoo W0 (W1.drew.setCells g (i * 3) (y8 h)) (ik wb k { m with homes := m.homes.set i h } q y o ++ E) := by
   have := hz2.tail;rw [show ([h] : List Hm).length = 1 from rfl, hset] at this;have e : ik wb k { m with homes := m.homes.set i h } q y o = (ik wb k m q y o).set 4 (hmT.row (.slice k.ah m.homes.length k.ch) (m.homes.set i h)) := by
    unfold ik zk l9;dsimp only;rw [gq]; rfl
   rw [e];exact this
  have hi0 : (0 : Int) ≤ (i : Int) := by omega
  have hi1 : (i : Int) < (m.homes.length : Int) := by omega
  have hc3 : ∀ j, j < 3 → (W1.drew.cell? ⟨g, i * 3 + j, none⟩).isSome = true := fun j hj => by
   rw [show i * 3 + j = i * hmT.K + j from rfl, hcells i j hi hj, ay (by rw [hmT.len]; exact hj)]; rfl
  replace hz2 := hi_ hz2;replace hfr := hi_ hfr;replace hc3 := hi_ hc3;clear hcells hv2 hv3 hset hm h1 h2 hz1;go_enter func80, ntmps80;go_wp2_with fail;refine wr_ (fun w' => w'.cell? ⟨B, 0, none⟩ = some (.int .i64 h.node) ∧ w'.cell? ⟨B, 1, none⟩ = some (.int .u64 h.life) ∧ w'.cell? ⟨B, 2, none⟩ = some (.int .u64 h.ek) ∧ w'.cell? ⟨wb, 2, none⟩ = some (.slice (some ⟨g, 0, none⟩) m.homes.length k.ch)) 8 1 ⟨c0, c1, c2, k2⟩ fun hok hS0 => ?_;refine av hok 0 ?_;refine av hok 1 ?_;refine av hok 2 ?_;refine av hok 3 ?_;refine av hok 4 ?_;refine av hok 5 ?_;refine av hok 6 ?_;refine av hok 7 ?_;refine kw ?_;refine ru rfl 67 (.tmp 15) (.tmp 14) rfl g (i * 3) (y8 h) rfl rfl sizeOf67 (hmT.one h) (fun j hj => hc3.out j hj) hfr.out ?_;clear hok hS0 c0 c1 c2 k2 hc3 hfr;go_wp2_with fail;go_end0
  exact ⟨k.ah, k.ch, rfl, hz2⟩
 obtain ⟨hs, hn, hb, hb2⟩ := h2 (by omega);have hat' : decide (0 ≤ at_) = false := aj hat;have hm : um m at_ h = { m with homes := uh Ja h m.homes } := by unfold um; rw [bq hat]
 rw [hm];replace hz1 := hi_ hz1;replace hs := hi_ hs;replace hn := hi_ hn;replace hb := hi_ hb;clear hm h1 h2;go_enter func80, ntmps80;go_wp2_with fail;refine wr_ (fun w' => w'.cell? ⟨B, 0, none⟩ = some (.int .i64 h.node) ∧ w'.cell? ⟨B, 1, none⟩ = some (.int .u64 h.life) ∧ w'.cell? ⟨B, 2, none⟩ = some (.int .u64 h.ek) ∧ w'.cell? ⟨wb, 2, none⟩ = some (.slice k.ah m.homes.length k.ch)) 9 4 ⟨c0, c1, c2, k2⟩ fun hok hS0 => ?_;generalize W1.drew = Wd at *;refine av hok 0 ?_;refine av hok 1 ?_;refine av hok 2 ?_;refine av hok 3 ?_;refine av hok 4 ?_;refine av hok 5 ?_;refine av hok 6 ?_;refine g_ 7 fun K hK => ?_;go_simp;have hzA := hz1.out.alloc (.cells (hmT.enc h).toArray 67);refine hK _ _ ⟨lg _ c0, lg _ c1, lg _ c2, lg _ k2⟩ ?_;clear hK K;try simp only [nrm_, Act.put]
 refine g_ 8 fun K hK => ?_;have hown1 := RT.Own.one hmT Wd h Wd.heap.size rfl;obtain ⟨F, ⟨ho1, hF⟩, -, hact⟩ := hzA.act 5 (hmT.row (.slice k.ah m.homes.length k.ch) m.homes) rfl;refine hmT.jv rfl (.tmp 21) (.tmp 23) rfl _ _ m.homes [h] rfl rfl ho1 hown1.rd (by rw [bi]; omega) ?_;intro v8 w8 ho8 hg8 hat8;have hz8 := hact (hmT.row v8 (m.homes ++ [h])) (fun k => v8.ownBlock = some k) w8 ⟨ho8, fun _ => j6⟩ (iy hF hg8 hat8);obtain ⟨a8, c8, hv8⟩ := ho8.len;subst hv8;obtain ⟨hb0, -⟩ := hz8.box 0 rfl;obtain ⟨hbx, -⟩ := hz8.box 1 rfl;have t2 : w8.cell? ⟨wb, 2, none⟩ = some (.slice k.ah m.homes.length k.ch) := bc_ hbx 2;have f2 := bf_ hbx 2;refine hK _ _ ⟨bc_ hb0 0, bc_ hb0 1, bc_ hb0 2, t2⟩ ?_;clear hK K;refine kw ?_;have hz9 := hz8.il 1 rfl 2 (.slice a8 (m.homes ++ [h]).length c8);replace hz9 : Zoo W0 (w8.setCell ⟨wb, 2, none⟩ (.slice a8 (m.homes ++ [h]).length c8)) (ik wb { k with ah := a8, ch := c8 } { m with homes := m.homes ++ [h] } q y o ++ E) := hz9.tail;generalize hwC : w8.setCell ⟨wb, 2, none⟩ (.slice a8 (m.homes ++ [h]).length c8) = wC at hz9;have k2' : wC.cell? ⟨wb, 2, none⟩ = some (.slice a8 (m.homes ++ [h]).length c8) := bc_ (hz9.box 0 rfl).1 2;have hfront := hz9.front 4 rfl;have hsort := hi_ (Z_ hfront (fun x hx => by
  rcases fe.1 hx with hx | hx
  ·exact hb.out x hx
  rw [dx.1 hx]; exact hb2) (by simp) (by simp; omega))
 replace hz9 := hi_ hz9;have hlen : (m.homes ++ [h]).length = m.homes.length + 1 := by simp
 rw [hlen] at hwC k2' hsort;clear hz8 hact ho8 hg8 hat8 ho1 hF hown1 hzA c0 c1 c2 k2 hok hS0 hz1 hfront hb0 hbx hB hW1;rw [hlen];clear hlen;go_wp2_with fail;refine hsort.out.mono ?_;rintro e w9 ⟨rfl, l', hl', hzS⟩;have e1 := Xw h hs.out hn.out hl'.out.1 hl'.out.2;have hz10 := Zoo.back (L := ik wb { k with ah := a8, ch := c8 } { m with homes := m.homes ++ [h] } q y o ++ E) 4 (by show 4 < _ + 7; omega) hzS.out;have hll : l'.length = m.homes.length + 1 := by rw [hl'.out.1.length_eq]; simp
 replace hz10 : Hid (Zoo W0 w9 (ik wb { k with ah := a8, ch := c8 } { m with homes := uh Ja h m.homes } q y o ++ E)) := hi_ (by
  rw [← e1];have e : ik wb { k with ah := a8, ch := c8 } { m with homes := l' } q y o = (ik wb { k with ah := a8, ch := c8 } { m with homes := m.homes ++ [h] } q y o).set 4 (hmT.row (.slice a8 (m.homes.length + 1) c8) l') := by
   unfold ik zk l9;dsimp only;rw [hll, bz, bi]; rfl
  rw [e];exact hz10)
 clear hsort hz9 hzS hl' e1 hll;go_wp2_with fail;go_end0
 exact ⟨a8, c8, rfl, hz10⟩
end
section
open Go.RowKit Go.Maps Go.WideMaps Go.Sort Go.Lib
attribute [local go_sem ↓] Go.wp_at_zero Go.wp_at_succ
theorem Fx (a b : List UInt8) : bytesBefore a b = true ∨ a = b ∨ bytesBefore b a = true := by
 by_cases h : a = b
 ·exact .inr (.inl h)
 rcases qm.tot a b h with h | h
 ·exact .inl h
 exact .inr (.inr h)
instance : Inhabited BxV := ⟨⟨⟨#[]⟩, 0, 0, 0, [], none, 0⟩⟩
def ea_ (x y : BxV) : Int := Lib.compareBytes x.name.data.toList y.name.data.toList
theorem fr_ (x y : BxV) : ltOf ea_ x y = bytesBefore x.name.data.toList y.name.data.toList := Yh _ _
theorem hc_ : SWO (ltOf ea_) where
 irrefl x := by rw [fr_]; exact qm.irr _
 trans x y z h1 h2 := by rw [fr_] at *; exact qm.trans _ _ _ h1 h2
 ntrans x y z h1 h2 := by
  rw [fr_] at *;cases h : bytesBefore x.name.data.toList z.name.data.toList with
  | false => rfl
  | true =>
   rcases Fx x.name.data.toList y.name.data.toList with h3 | h3 | h3
   ·rw [h3] at h1; cases h1
   ·rw [h3] at h; rw [h] at h2; cases h2
   have := qm.trans _ _ _ h3 h; rw [this] at h2; cases h2
set_option maxHeartbeats 1000000 in
theorem bn_ (x y : BxV) (W : World) : Calls prog 84 #[.agg (bxT.enc x).toArray, .agg (bxT.enc y).toArray] W fun e w' => e = .returned (.int .i64 (ea_ x y)) ∧ ∃ q os', w' = grow (W.drewN q) os' := by
 unfold ea_;show Calls prog 84 #[.agg #[.string x.name, .int .u64 x.ag, .int .u64 x.next, .int .u64 x.high, .slice x.a x.rows.length x.c], .agg #[.string y.name, .int .u64 y.ag, .int .u64 y.next, .int .u64 y.high, .slice y.a y.rows.length y.c]] W _;go_enter func84, ntmps84;go_wp2_with fail;refine (strings_Compare x.name y.name _).mono ?_;rintro e w3 ⟨rfl, rfl⟩;go_wp2_with fail;go_ret;refine ⟨rfl, 0, _, by rw [alloc_eq_grow, alloc_eq_grow, grow_grow]; rfl⟩
theorem Xd {W0 W : World} {L : List Th} {v : Value} {l : List BxV} (hz : Zoo W0 W (bxT.row v l :: L)) (hpos : 0 < l.length) (hlen : l.length ≤ 1000) :
  Calls prog 83 #[v, .func (.func 84) #[] #[]] W fun e w' => e = .returned (.tuple #[]) ∧ ∃ l' : List BxV, Hid (l'.Perm l ∧ l'.Pairwise (fun x y => bytesBefore y.name.data.toList x.name.data.toList = false)) ∧ Hid (Zoo W0 w' (bxT.row v l' :: L)) := by
 have eg : ∀ args w, (callFunc 84 args).run prog w = .ok (.enter 84 args) w := enters_of func84 (by kernel_rfl) rfl;have hcon := bxT.sort sortB rfl isAgg48 sizeOf48 ea_ hc_ 84 eg bn_ hz hpos hlen;change Calls prog 83 _ _ _ at hcon;refine hcon.mono ?_;rintro e w' ⟨rfl, l', h1, h2⟩;refine ⟨rfl, l', hi_ ⟨h1.out.1, h1.out.2.imp (fun {x y} h => by rw [fr_] at h; exact h)⟩, h2⟩
def mh (a b : Bx) : Bool := bytesBefore a.name.data.toList b.name.data.toList
theorem Tg {l : List Bx} (h : Bx) (hs : l.Pairwise (fun x y => mh x y = true)) (hn : ∀ x ∈ l, x.name.data.toList ≠ h.name.data.toList) {l' : List Bx} (hp : l'.Perm (l ++ [h])) (hw : l'.Pairwise (fun x y => mh y x = false)) : l' = uh mh h l := by
 have key : ∀ (l : List Bx), l.Pairwise (fun x y => mh x y = true) → (∀ x ∈ l, x.name.data.toList ≠ h.name.data.toList) → (uh mh h l).Pairwise (fun x y => mh y x = false) ∧ (uh mh h l).Perm (l ++ [h]) := by
  intro l;have asym : ∀ x y : Bx, mh x y = true → mh y x = false := fun x y h1 => by
   cases h2 : mh y x with
   | false => rfl
   | true =>
    have := qm.trans _ _ _ h1 h2;rw [qm.irr] at this;cases this
  induction l with
  | nil => intro _ _; exact ⟨by simp [uh], by simp [uh]⟩
  | cons a r ih =>
   intro h1 h2;have h1' := jg.1 h1;obtain ⟨i1, i2⟩ := ih h1'.2 (fun x hx => h2 x (by simp [hx]));unfold uh;by_cases hlt : mh h a = true
   ·rw [dh hlt];refine ⟨jg.2 ⟨fun y hy => ?_, h1.imp (fun h => asym _ _ h)⟩, (qx _ _).symm⟩;rcases d_.1 hy with rfl | hy
    ·exact asym _ _ hlt
    exact asym _ _ (qm.trans _ _ _ hlt (h1'.1 y hy))
   rw [bq hlt];refine ⟨jg.2 ⟨fun y hy => ?_, i1⟩, i2.cons a⟩;rcases (xw mh h y r).1 hy with rfl | hy
   ·simpa using hlt
   exact asym _ _ (h1'.1 y hy)
 obtain ⟨k1, k2⟩ := key l hs hn;have hinj : ∀ x ∈ l ++ [h], ∀ y ∈ l ++ [h], x.name.data.toList = y.name.data.toList → x = y := by
  intro x hx y hy hxy;rcases fe.1 hx with hx | hx <;> rcases fe.1 hy with hy | hy
  ·obtain ⟨i, hi, rfl⟩ := gu.1 hx;obtain ⟨j, hj, rfl⟩ := gu.1 hy;rcases La i j with h3 | h3 | h3
   ·have := gm.1 hs i j hi hj h3;unfold mh at this;rw [hxy, qm.irr] at this; cases this
   ·subst h3; rfl
   have := gm.1 hs j i hj hi h3;unfold mh at this;rw [hxy, qm.irr] at this; cases this
  ·rw [dx.1 hy] at hxy; exact absurd hxy (hn x hx)
  ·rw [dx.1 hx] at hxy; exact absurd hxy.symm (hn y hy)
  rw [dx.1 hx, dx.1 hy]
 refine Md (le := fun x y : Bx => mh y x = false) (fun x y hx hy h1 h2 => hinj x (hp.mem_iff.1 hx) y (k2.mem_iff.1 hy) ?_) hw k1 (hp.trans k2.symm);rcases Fx x.name.data.toList y.name.data.toList with h3 | h3 | h3
 ·unfold mh at h2; rw [h3] at h2; cases h2
 ·exact h3
 unfold mh at h1; rw [h3] at h1; cases h1
def nk (m : Ml) (q : Rq) (o : Oc) : Int × Ml × Oc :=
 if uu q.box.data.toList = false ∨ Kw q.box.data.toList ≠ q.box.data.toList then (1, m, o)
 else match m.boxes.findIdx? (fun x => x.name.toList == q.box.toList) with
  | some _ => (12, m, o)
  | none =>
   if 8 ≤ m.boxes.length then (7, m, o)
   else if 4294967295 < m.nv then (13, m, o)
   else (0, { m with boxes := uh mh ⟨q.box, m.nv, 1, 1, []⟩ m.boxes, nv := m.nv + 1 }, { o with ag := m.nv })
end
end Go.Proofs.YtdobbfjmlnlieaaGreat
