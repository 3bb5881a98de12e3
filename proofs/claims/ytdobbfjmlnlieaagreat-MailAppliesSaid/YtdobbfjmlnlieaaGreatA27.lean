/- The document's Same, asked about two states: walked; SameOutcome, asked about two outcomes that are the same: wal; MailApplies: small laws (outcomes are short; what a call han -/
import Derived.Test.YtdobbfjmlnlieaaGreatA01
import Derived.Test.YtdobbfjmlnlieaaGreatA26
import Derived.Test.YtdobbfjmlnlieaaGreatA15
import Derived.Test.YtdobbfjmlnlieaaGreatA25
namespace Go.Proofs.YtdobbfjmlnlieaaGreat
set_option linter.unusedSimpArgs false
namespace Tryz
end Tryz
open Go.Proofs.Tryz Go.Proofs.YtdobbfjmlnlieaaGreat.Tryz
section
open Go.RowKit
attribute [local go_sem ↓] Go.wp_at_zero Go.wp_at_succ
theorem Rx {w w' : World} (h : Below w.heap.size w w') {B : Nat} {o : Obj} (ho : w.heap[B]? = some o) : w'.heap[B]? = some o := (h.block B (bv.1 ho).1).trans ho
def hp_ (P : Prop) (W : World) (e : Ending) (w' : World) : Prop := ∃ B, e = .returned (.bool B) ∧ Hid (P → B = true) ∧ Hid (Below W.heap.size W w')
structure eq_ (m : Ml) : Prop where
 b : m.boxes.length ≤ 100000
 s : m.seats.length ≤ 100000
 h : m.homes.length ≤ 100000
 l : ∀ b ∈ m.boxes, b.letters.length ≤ 1000000
 f : ∀ b ∈ m.boxes, ∀ x ∈ b.letters, x.flags.length ≤ 10000
set_option maxRecDepth 100000 in
set_option maxHeartbeats 16000000 in
theorem Mo {W : World} (v1 v2 : Value) {m1 m2 : Ml} (hin1 : pq W v1 m1) (hin2 : pq W v2 m2) (hz1 : eq_ m1) :
  Calls prog 17 #[v1, v2] W (hp_ (m1 = m2) W) := by
 obtain ⟨vb1, vh1, vs1, b1, rfl, hb1, hib1, hih1, his1⟩ := hin1;obtain ⟨vb2, vh2, vs2, b2, rfl, hb2, hib2, hih2, his2⟩ := hin2;obtain ⟨h1, hh1⟩ : ∃ h1, m1.homes = h1 := ⟨_, rfl⟩;obtain ⟨h2, hh2⟩ : ∃ h2, m2.homes = h2 := ⟨_, rfl⟩;obtain ⟨s1, hs1⟩ : ∃ s1, m1.seats = s1 := ⟨_, rfl⟩;obtain ⟨s2, hs2⟩ : ∃ s2, m2.seats = s2 := ⟨_, rfl⟩;rw [hh1] at hih1;rw [hs1] at his1;rw [hh2] at hih2;rw [hs2] at his2;have hB1 : Hid (∀ w', Below W.heap.size W w' → zo w' vb1 b1) := hi_ (fun w' h => hib1.below h);have hB2 : Hid (∀ w', Below W.heap.size W w' → zo w' vb2 b2) := hi_ (fun w' h => hib2.below h);have hH1 : Hid (∀ w', Below W.heap.size W w' → F_ w' vh1 h1) := hi_ (fun w' h => jf hih1 h);have hH2 : Hid (∀ w', Below W.heap.size W w' → F_ w' vh2 h2) := hi_ (fun w' h => jf hih2 h);have hS1 : Hid (∀ w', Below W.heap.size W w' → z_ w' vs1 s1) := hi_ (fun w' h => jf his1 h);have hS2 : Hid (∀ w', Below W.heap.size W w' → z_ w' vs2 s2) := hi_ (fun w' h => jf his2 h);obtain ⟨aa, ca, rfl, -⟩ := hib1.1;obtain ⟨ab, cb, rfl, -⟩ := hib2.1;obtain ⟨ha, cha, rfl, -⟩ := hih1;obtain ⟨hb, chb, rfl, -⟩ := hih2;obtain ⟨sa, csa, rfl, -⟩ := his1;obtain ⟨sb, csb, rfl, -⟩ := his2;have lb1 : b1.length = m1.boxes.length := by rw [← hb1, az]
 have lb2 : b2.length = m2.boxes.length := by rw [← hb2, az]
 obtain ⟨Pp, hP⟩ : ∃ Pp : Prop, Pp = (m1 = m2) := ⟨_, rfl⟩;rw [← hP];have hlb := hz1.b;have hls := hz1.s;have hlh := hz1.h;rw [← lb1] at hlb;rw [hs1] at hls;rw [hh1] at hlh;have hbx : Hid (∀ w', Below W.heap.size W w' → ∀ j (hj : j < b1.length), b1[j].rows.length ≤ 1000000 ∧ ∀ y ∈ b1[j].rows, y.x.flags.length * 16 ≤ 140737488355328) := hi_ (fun w' _ j hj => by
  have hm : b1[j].b ∈ m1.boxes := by rw [← hb1]; exact jo (bg hj)
  refine ⟨?_, fun y hy => ?_⟩
  ·have h1 := hz1.l _ hm;have h2 : b1[j].b.letters.length = b1[j].rows.length := az ..;omega
  have := hz1.f _ hm y.x (jo (f := LtV.x) hy);omega)
 have hlen : Pp → b1.length = b2.length ∧ s1.length = s2.length ∧ h1.length = h2.length ∧ m1.nv = m2.nv ∧ m1.ns = m2.ns ∧ m1.a_ = m2.a_ := fun h => by
  rw [hP] at h;subst h;exact ⟨by rw [lb1, lb2], by rw [← hs1, ← hs2], by rw [← hh1, ← hh2], rfl, rfl, rfl⟩
 have hbox : Hid (Pp → ∀ j (h : j < b1.length) (h2 : j < b2.length), b1[j].b = b2[j].b) := hi_ (fun h j hj hj2 => by
  rw [hP] at h;subst h;have := jk (fun l : List Bx => l[j]?) (hb1.trans hb2.symm);simp only [ji, ay hj, ay hj2, Bi, Ez] at this;exact this)
 have hst : Hid (Pp → s1 = s2) := hi_ (fun h => by rw [hP] at h; subst h; rw [← hs1, ← hs2]);have hhm : Hid (Pp → h1 = h2) := hi_ (fun h => by rw [hP] at h; subst h; rw [← hh1, ← hh2]);have hz2 := ((ny W).dz [.slice aa b1.length ca, .int .u64 m1.nv, .slice ha h1.length cha, .slice sa s1.length csa, .int .u64 m1.ns, .int .u64 m1.a_].toArray 27).dz [.slice ab b2.length cb, .int .u64 m2.nv, .slice hb h2.length chb, .slice sb s2.length csb, .int .u64 m2.ns, .int .u64 m2.a_].toArray 27;have hlt : W.heap.size < (W.alloc (.cells [.slice aa b1.length ca, .int .u64 m1.nv, .slice ha h1.length cha, .slice sa s1.length csa, .int .u64 m1.ns, .int .u64 m1.a_].toArray 27)).heap.size := by simp
 generalize hMB : W.heap.size = XB at hz2 hlt;generalize hRB : (W.alloc (.cells [.slice aa b1.length ca, .int .u64 m1.nv, .slice ha h1.length cha, .slice sa s1.length csa, .int .u64 m1.ns, .int .u64 m1.a_].toArray 27)).heap.size = YB at hz2 hlt;generalize hWb : ((W.alloc (.cells [.slice aa b1.length ca, .int .u64 m1.nv, .slice ha h1.length cha, .slice sa s1.length csa, .int .u64 m1.ns, .int .u64 m1.a_].toArray 27)).alloc (.cells [.slice ab b2.length cb, .int .u64 m2.nv, .slice hb h2.length chb, .slice sb s2.length csb, .int .u64 m2.ns, .int .u64 m2.a_].toArray 27)) = Wb at hz2;obtain ⟨hbX, -⟩ := hz2.box 1 rfl;obtain ⟨hbY, -⟩ := hz2.box 0 rfl;obtain ⟨x0, x1, x2, x3, x4, x5⟩ := bx6 hbX;obtain ⟨y0, y1, y2, y3, y4, y5⟩ := bx6 hbY;have hbel := hi_ hz2.bel;replace hz2 := hi_ hz2;replace hlen := hi_ hlen;clear hbX hbY hib1 hib2 hz1 hb1 hb2 hP hh1 hh2 hs1 hs2 lb1 lb2;show Calls prog 17 #[.agg #[.slice aa b1.length ca, .int .u64 m1.nv, .slice ha h1.length cha, .slice sa s1.length csa, .int .u64 m1.ns, .int .u64 m1.a_], .agg #[.slice ab b2.length cb, .int .u64 m2.nv, .slice hb h2.length chb, .slice sb s2.length csb, .int .u64 m2.ns, .int .u64 m2.a_]] W _;go_enter func17, ntmps17;go_upto_region 1 with fail;clear hWb hRB;cases t0 : ((b1.length : Int) == (b2.length : Int)) with
 | false =>
  have hn := hi_ (show ¬ Pp from fun h => by have h2 := (hlen.out h).1; rw [h2] at t0; simp at t0);have t0' : ((b1.length : Int) != (b2.length : Int)) = true := by simpa [bne] using t0
  clear hB1 hB2 hH1 hH2 hS1 hS2 hbx hbox hst hhm;go_wp2_with fail;go_ret;first | exact ⟨false, rfl, hi_ (fun h => absurd h hn.out), hbel⟩ | (rw [← hMB]; exact ⟨false, rfl, hi_ (fun h => absurd h hn.out), hbel⟩)
 | true =>
  have t0' : ((b1.length : Int) != (b2.length : Int)) = false := by simpa [bne] using t0
  cases t1 : ((s1.length : Int) == (s2.length : Int)) with
  | false =>
   have hn := hi_ (show ¬ Pp from fun h => by have h2 := (hlen.out h).2.1; rw [h2] at t1; simp at t1);have t1' : ((s1.length : Int) != (s2.length : Int)) = true := (by simpa [bne] using t1);clear hB1 hB2 hH1 hH2 hS1 hS2 hbx hbox hst hhm;go_wp2_with fail;go_ret;first | exact ⟨false, rfl, hi_ (fun h => absurd h hn.out), hbel⟩ | (rw [← hMB]; exact ⟨false, rfl, hi_ (fun h => absurd h hn.out), hbel⟩)
  | true =>
   have t1' : ((s1.length : Int) != (s2.length : Int)) = false := (by simpa [bne] using t1);cases t2 : ((h1.length : Int) == (h2.length : Int)) with
   | false =>
    have hn := hi_ (show ¬ Pp from fun h => by have h2 := (hlen.out h).2.2.1; rw [h2] at t2; simp at t2);have t2' : ((h1.length : Int) != (h2.length : Int)) = true := (by simpa [bne] using t2);clear hB1 hB2 hH1 hH2 hS1 hS2 hbx hbox hst hhm;go_wp2_with fail;go_ret;first | exact ⟨false, rfl, hi_ (fun h => absurd h hn.out), hbel⟩ | (rw [← hMB]; exact ⟨false, rfl, hi_ (fun h => absurd h hn.out), hbel⟩)
   | true =>
    have t2' : ((h1.length : Int) != (h2.length : Int)) = false := (by simpa [bne] using t2);cases t3 : ((m1.nv : Int) == (m2.nv : Int)) with
    | false =>
     have hn := hi_ (show ¬ Pp from fun h => by have h2 := (hlen.out h).2.2.2.1; rw [h2] at t3; simp at t3);have t3' : ((m1.nv : Int) != (m2.nv : Int)) = true := (by simpa [bne] using t3);clear hB1 hB2 hH1 hH2 hS1 hS2 hbx hbox hst hhm;go_wp2_with fail;go_ret;first | exact ⟨false, rfl, hi_ (fun h => absurd h hn.out), hbel⟩ | (rw [← hMB]; exact ⟨false, rfl, hi_ (fun h => absurd h hn.out), hbel⟩)
    | true =>
     have t3' : ((m1.nv : Int) != (m2.nv : Int)) = false := (by simpa [bne] using t3);cases t4 : ((m1.ns : Int) == (m2.ns : Int)) with
     | false =>
      have hn := hi_ (show ¬ Pp from fun h => by have h2 := (hlen.out h).2.2.2.2.1; rw [h2] at t4; simp at t4);have t4' : ((m1.ns : Int) != (m2.ns : Int)) = true := (by simpa [bne] using t4);clear hB1 hB2 hH1 hH2 hS1 hS2 hbx hbox hst hhm;go_wp2_with fail;go_ret;first | exact ⟨false, rfl, hi_ (fun h => absurd h hn.out), hbel⟩ | (rw [← hMB]; exact ⟨false, rfl, hi_ (fun h => absurd h hn.out), hbel⟩)
     | true =>
      have t4' : ((m1.ns : Int) != (m2.ns : Int)) = false := (by simpa [bne] using t4);cases t5 : ((m1.a_ : Int) == (m2.a_ : Int)) with
      | false =>
       have hn := hi_ (show ¬ Pp from fun h => by have h2 := (hlen.out h).2.2.2.2.2; rw [h2] at t5; simp at t5);have t5' : ((m1.a_ : Int) != (m2.a_ : Int)) = true := (by simpa [bne] using t5);clear hB1 hB2 hH1 hH2 hS1 hS2 hbx hbox hst hhm;go_wp2_with fail;go_ret;first | exact ⟨false, rfl, hi_ (fun h => absurd h hn.out), hbel⟩ | (rw [← hMB]; exact ⟨false, rfl, hi_ (fun h => absurd h hn.out), hbel⟩)
      | true =>
       have t5' : ((m1.a_ : Int) != (m2.a_ : Int)) = false := (by simpa [bne] using t5);go_wp2_with fail;have l12 := hi_ (show b2.length = b1.length by have h := eq_of_beq t0; omega);have l12s := hi_ (show s2.length = s1.length by have h := eq_of_beq t1; omega);have l12h := hi_ (show h2.length = h1.length by have h := eq_of_beq t2; omega);clear x0 x1 x2 x3 x4 x5 y0 y1 y2 y3 y4 y5 t0 t1 t2 t3 t4 t5 t0' t1' t2' t3' t4' t5';go_loopw [5] (fun v5 wr => ∃ j : Nat, v5 = .int .i64 j ∧ j ≤ b1.length ∧ Hid (Zoo W wr [df YB [.slice ab b2.length cb, .int .u64 m2.nv, .slice hb h2.length chb, .slice sb s2.length csb, .int .u64 m2.ns, .int .u64 m2.a_].toArray 27, df XB [.slice aa b1.length ca, .int .u64 m1.nv, .slice ha h1.length cha, .slice sa s1.length csa, .int .u64 m1.ns, .int .u64 m1.a_].toArray 27])) (fun v5 _ => b1.length - (intOf v5).toNat);case atStart => exact ⟨0, rfl, dw _, hz2⟩
       case round =>
        clear hz2;obtain ⟨j, rfl, hj, hz⟩ := hrel;obtain ⟨hbX, -⟩ := hz.out.box 1 rfl;have x0 : wr.cell? ⟨XB, 0, none⟩ = some (.slice aa b1.length ca) := bc_ hbX 0;by_cases hlt2 : j < b1.length
        ·have hinX := hB1.out wr hz.out.bel;have hinY := hB2.out wr hz.out.bel;have hlt3 : j < b2.length := (by have := l12.out; omega);obtain ⟨p, po, pc, hv, -, hcX⟩ := gh_ hinX hlt2;injection hv with hv1 hv2 hv3;subst hv1 hv3;obtain ⟨r, ro, rc, hv, -, hcY⟩ := gh_ hinY hlt3;injection hv with hv1 hv2 hv3;subst hv1 hv3;have hbe : Hid (Pp → b1[j].b = b2[j].b) := hi_ (fun h => hbox.out h j hlt2 hlt3);have hlx := hinX.2 _ (bg hlt2);have hly := hinY.2 _ (bg hlt3);obtain ⟨g1, g2⟩ := hbx.out wr hz.out.bel j hlt2;obtain ⟨x, hx'⟩ : ∃ x, b1[j] = x := ⟨_, rfl⟩;obtain ⟨y, hy'⟩ : ∃ y, b2[j] = y := ⟨_, rfl⟩;rw [hx'] at hcX hbe hlx g1 g2;rw [hy'] at hcY hbe hly;have hcall : Hid (∀ w', Below wr.heap.size wr w' → Calls prog 20 #[.agg #[.string x.name, .int .u64 x.ag, .int .u64 x.next, .int .u64 x.high, .slice x.a x.rows.length x.c], .agg #[.string y.name, .int .u64 y.ag, .int .u64 y.next, .int .u64 y.high, .slice y.a y.rows.length y.c]] w' (Jh (x.b = y.b) w')) := hi_ (fun w' hb => Um x y (hlx.below hb) (hly.below hb) g1 g2);have hbX0 := hbX;obtain ⟨hbY, -⟩ := hz.out.box 0 rfl;have hcl : Hid (∀ w', Below wr.heap.size wr w' → w'.cell? ⟨XB, 0, none⟩ = some (.slice (some ⟨p, po, none⟩) b1.length ca) ∧ w'.cell? ⟨YB, 0, none⟩ = some (.slice (some ⟨r, ro, none⟩) b2.length cb) ∧ (w'.cell? ⟨p, po + j * 5, none⟩ = some (.string x.name) ∧ w'.cell? ⟨p, po + j * 5 + 1, none⟩ = some (.int .u64 x.ag) ∧ w'.cell? ⟨p, po + j * 5 + 2, none⟩ = some (.int .u64 x.next) ∧ w'.cell? ⟨p, po + j * 5 + 3, none⟩ = some (.int .u64 x.high) ∧ w'.cell? ⟨p, po + j * 5 + 4, none⟩ = some (.slice x.a x.rows.length x.c)) ∧ (w'.cell? ⟨r, ro + j * 5, none⟩ = some (.string y.name) ∧ w'.cell? ⟨r, ro + j * 5 + 1, none⟩ = some (.int .u64 y.ag) ∧ w'.cell? ⟨r, ro + j * 5 + 2, none⟩ = some (.int .u64 y.next) ∧ w'.cell? ⟨r, ro + j * 5 + 3, none⟩ = some (.int .u64 y.high) ∧ w'.cell? ⟨r, ro + j * 5 + 4, none⟩ = some (.slice y.a y.rows.length y.c))) := hi_ (fun w' h => ⟨bc_ (Rx h hbX0) 0, bc_ (Rx h hbY) 0, hcX w' h, hcY w' h⟩);have hi0 : (0 : Int) ≤ (j : Int) := (by omega);have hi1 : (j : Int) < (b1.length : Int) := (by omega);have hi2 : (j : Int) < (b2.length : Int) := (by have := l12.out; omega);have hbd := (ae wr.heap.size wr).drew;clear hinX hinY hlx hly g1 g2 hx' hy' hbX hbX0 hbY hcX hcY;go_upto_region 6 with fail;clear x0;refine wr_ (fun w' => w'.cell? ⟨XB, 0, none⟩ = some (.slice (some ⟨p, po, none⟩) b1.length ca) ∧ w'.cell? ⟨YB, 0, none⟩ = some (.slice (some ⟨r, ro, none⟩) b2.length cb) ∧ (w'.cell? ⟨p, po + j * 5, none⟩ = some (.string x.name) ∧ w'.cell? ⟨p, po + j * 5 + 1, none⟩ = some (.int .u64 x.ag) ∧ w'.cell? ⟨p, po + j * 5 + 2, none⟩ = some (.int .u64 x.next) ∧ w'.cell? ⟨p, po + j * 5 + 3, none⟩ = some (.int .u64 x.high) ∧ w'.cell? ⟨p, po + j * 5 + 4, none⟩ = some (.slice x.a x.rows.length x.c)) ∧ (w'.cell? ⟨r, ro + j * 5, none⟩ = some (.string y.name) ∧ w'.cell? ⟨r, ro + j * 5 + 1, none⟩ = some (.int .u64 y.ag) ∧ w'.cell? ⟨r, ro + j * 5 + 2, none⟩ = some (.int .u64 y.next) ∧ w'.cell? ⟨r, ro + j * 5 + 3, none⟩ = some (.int .u64 y.high) ∧ w'.cell? ⟨r, ro + j * 5 + 4, none⟩ = some (.slice y.a y.rows.length y.c))) 11 1 (hcl.out _ hbd) fun hok hS0 => ?_;have hzd := hz.out.drew;generalize wr.drew = Wd at *;refine av hok 0 ?_;refine av hok 1 ?_;refine av hok 2 ?_;refine av hok 3 ?_;refine av hok 4 ?_;refine av hok 5 ?_;refine av hok 6 ?_;refine av hok 7 ?_;refine av hok 8 ?_;refine av hok 9 ?_;refine g_ 10 fun K hK => ?_;go_simp;refine (hcall.out _ hbd).mono ?_;rintro e w5 ⟨B, rfl, hB, hb5⟩;dsimp only;have hbd5 := hbd.trans (hb5.out.mono hbd.size);have hz5 := hi_ (hzd.below hb5.out);have hSf := hcl.out _ hbd5;refine hK _ _ hSf ?_;clear hK K hS0;refine kw ?_;cases B with
         | false =>
          have hn := hi_ (show ¬ Pp from fun h => Bool.noConfusion (hB.out.2 (hbe.out h)));have hbF := hi_ hz5.out.bel;clear hok hSf hcl hcall hzd hb5 hB hbe hz5 hB1 hB2 hH1 hH2 hS1 hS2 hbx hbox hst hhm;go_wp2_with fail;go_ret;first | exact ⟨false, rfl, hi_ (fun h => absurd h hn.out), hbF⟩ | (rw [← hMB]; exact ⟨false, rfl, hi_ (fun h => absurd h hn.out), hbF⟩)
         | true =>
          clear hok hSf hcl hcall hzd hb5 hB hbe;go_wp2_with fail;go_roundw;case rel => exact ⟨j + 1, by go_num, by omega, hz5⟩
          case measure => simp [intOf] <;> omega
        obtain rfl : j = b1.length := (by omega);clear hbX;go_wp2_with fail;clear x0;go_loopw [6] (fun v6 wr => ∃ j : Nat, v6 = .int .i64 j ∧ j ≤ s1.length ∧ Hid (∀ k (kh : k < s1.length) (kh2 : k < s2.length), k < j → s1[k] = s2[k]) ∧ Hid (Zoo W wr [df YB [.slice ab b2.length cb, .int .u64 m2.nv, .slice hb h2.length chb, .slice sb s2.length csb, .int .u64 m2.ns, .int .u64 m2.a_].toArray 27, df XB [.slice aa b1.length ca, .int .u64 m1.nv, .slice ha h1.length cha, .slice sa s1.length csa, .int .u64 m1.ns, .int .u64 m1.a_].toArray 27])) (fun v6 _ => s1.length - (intOf v6).toNat);case atStart => exact ⟨0, rfl, dw _, hi_ (fun k kh kh2 hk => absurd hk (Du _)), hz⟩
        case round =>
         clear hz;obtain ⟨j, rfl, hj, heq, hz⟩ := hrel;obtain ⟨hbX, -⟩ := hz.out.box 1 rfl;obtain ⟨hbY, -⟩ := hz.out.box 0 rfl;have xx : wr.cell? ⟨XB, 3, none⟩ = some (.slice sa s1.length csa) := bc_ hbX 3;have yy : wr.cell? ⟨YB, 3, none⟩ = some (.slice sb s2.length csb) := bc_ hbY 3;clear hbX hbY;by_cases hlt2 : j < s1.length
         ·have hlt3 : j < s2.length := (by have := l12s.out; omega);obtain ⟨p, po, pc, hv, hcX⟩ := ge_ (hS1.out wr hz.out.bel) hlt2;injection hv with hv1 hv2 hv3;subst hv1 hv3;obtain ⟨r, ro, rc, hv, hcY⟩ := ge_ (hS2.out wr hz.out.bel) hlt3;injection hv with hv1 hv2 hv3;subst hv1 hv3;have hstep : Hid (s1[j] = s2[j] → ∀ k (kh : k < s1.length) (kh2 : k < s2.length), k < j + 1 → s1[k] = s2[k]) := hi_ (fun hs k kh kh2 hk => by
           by_cases e : k = j
           ·subst e; exact hs
           exact heq.out k kh kh2 (by omega))
          have hbad : Hid (s1[j] ≠ s2[j] → ¬ Pp) := hi_ (fun hs kp => hs (by
           have kq := jk (fun l => l[j]?) (hst.out kp);simp only [ay hlt2, ay hlt3, Ez] at kq;exact kq))
          obtain ⟨x, hx'⟩ : ∃ x, s1[j] = x := ⟨_, rfl⟩;obtain ⟨y, hy'⟩ : ∃ y, s2[j] = y := ⟨_, rfl⟩;rw [hx'] at hcX hstep hbad;rw [hy'] at hcY hstep hbad;obtain ⟨c0, c1, c2, c3, c4⟩ := hcX wr (ae _ _);obtain ⟨d0, d1, d2, d3, d4⟩ := hcY wr (ae _ _);have hi0 : (0 : Int) ≤ (j : Int) := (by omega);have hi1 : (j : Int) < (s1.length : Int) := (by omega);have hi2 : (j : Int) < (s2.length : Int) := (by have := l12s.out; omega);clear hcX hcY hx' hy';by_cases he : x = y
          ·subst he;have hs := hi_ (hstep.out rfl);clear hstep hbad heq;go_wp2_with fail;go_quiet (fail);go_wp2_with fail;go_roundw;case rel => exact ⟨j + 1, by go_num, by omega, hs, hi_ (hz.out.below (qw (ae _ _) nq))⟩
           case measure => simp [intOf] <;> omega
          have hn := hi_ (hbad.out he);have hbF := hz.out.bel;cases e0 : ((x.session : Int) == (y.session : Int)) with
          | false =>
           go_wp2_with fail;go_quiet (fail);go_wp2_with fail;go_ret;have hbG := hi_ (qw hbF nq);first | exact ⟨false, rfl, hi_ (fun h => absurd h hn.out), hbG⟩ | (rw [← hMB]; exact ⟨false, rfl, hi_ (fun h => absurd h hn.out), hbG⟩)
          | true =>
           cases e1 : ((x.last : Int) == (y.last : Int)) with
           | false =>
            go_wp2_with fail;go_quiet (fail);go_wp2_with fail;go_ret;have hbG := hi_ (qw hbF nq);first | exact ⟨false, rfl, hi_ (fun h => absurd h hn.out), hbG⟩ | (rw [← hMB]; exact ⟨false, rfl, hi_ (fun h => absurd h hn.out), hbG⟩)
           | true =>
            cases e2 : (x.node == y.node) with
            | false =>
             go_wp2_with fail;go_quiet (fail);go_wp2_with fail;go_ret;have hbG := hi_ (qw hbF nq);first | exact ⟨false, rfl, hi_ (fun h => absurd h hn.out), hbG⟩ | (rw [← hMB]; exact ⟨false, rfl, hi_ (fun h => absurd h hn.out), hbG⟩)
            | true =>
             cases e3 : ((x.life : Int) == (y.life : Int)) with
             | false =>
              go_wp2_with fail;go_quiet (fail);go_wp2_with fail;go_ret;have hbG := hi_ (qw hbF nq);first | exact ⟨false, rfl, hi_ (fun h => absurd h hn.out), hbG⟩ | (rw [← hMB]; exact ⟨false, rfl, hi_ (fun h => absurd h hn.out), hbG⟩)
             | true =>
              cases e4 : ((x.ek : Int) == (y.ek : Int)) with
              | false =>
               go_wp2_with fail;go_quiet (fail);go_wp2_with fail;go_ret;have hbG := hi_ (qw hbF nq);first | exact ⟨false, rfl, hi_ (fun h => absurd h hn.out), hbG⟩ | (rw [← hMB]; exact ⟨false, rfl, hi_ (fun h => absurd h hn.out), hbG⟩)
              | true =>
               refine absurd ?_ he;obtain ⟨a0, a1, a2, a3, a4⟩ := x;obtain ⟨z0, z1, z2, z3, z4⟩ := y;obtain rfl : a0 = z0 := (by have h := eq_of_beq e0; dsimp only at h; omega);obtain rfl : a1 = z1 := (by have h := eq_of_beq e1; dsimp only at h; omega);obtain rfl : a2 = z2 := (by have h := eq_of_beq e2; dsimp only at h; omega);obtain rfl : a3 = z3 := (by have h := eq_of_beq e3; dsimp only at h; omega);obtain rfl : a4 = z4 := (by have h := eq_of_beq e4; dsimp only at h; omega);rfl
         obtain rfl : j = s1.length := (by omega);go_wp2_with fail;clear xx yy;go_loopw [7] (fun v7 wr => ∃ j : Nat, v7 = .int .i64 j ∧ j ≤ h1.length ∧ Hid (∀ k (kh : k < h1.length) (kh2 : k < h2.length), k < j → h1[k] = h2[k]) ∧ Hid (Zoo W wr [df YB [.slice ab b2.length cb, .int .u64 m2.nv, .slice hb h2.length chb, .slice sb s2.length csb, .int .u64 m2.ns, .int .u64 m2.a_].toArray 27, df XB [.slice aa b1.length ca, .int .u64 m1.nv, .slice ha h1.length cha, .slice sa s1.length csa, .int .u64 m1.ns, .int .u64 m1.a_].toArray 27])) (fun v7 _ => h1.length - (intOf v7).toNat);case atStart => exact ⟨0, rfl, dw _, hi_ (fun k kh kh2 hk => absurd hk (Du _)), hz⟩
         case round =>
          clear hz;obtain ⟨j, rfl, hj, heq, hz⟩ := hrel;obtain ⟨hbX, -⟩ := hz.out.box 1 rfl;obtain ⟨hbY, -⟩ := hz.out.box 0 rfl;have xx : wr.cell? ⟨XB, 2, none⟩ = some (.slice ha h1.length cha) := bc_ hbX 2;have yy : wr.cell? ⟨YB, 2, none⟩ = some (.slice hb h2.length chb) := bc_ hbY 2;clear hbX hbY;by_cases hlt2 : j < h1.length
          ·have hlt3 : j < h2.length := (by have := l12h.out; omega);obtain ⟨p, po, pc, hv, hcX⟩ := gg_ (hH1.out wr hz.out.bel) hlt2;injection hv with hv1 hv2 hv3;subst hv1 hv3;obtain ⟨r, ro, rc, hv, hcY⟩ := gg_ (hH2.out wr hz.out.bel) hlt3;injection hv with hv1 hv2 hv3;subst hv1 hv3;have hstep : Hid (h1[j] = h2[j] → ∀ k (kh : k < h1.length) (kh2 : k < h2.length), k < j + 1 → h1[k] = h2[k]) := hi_ (fun hs k kh kh2 hk => by
            by_cases e : k = j
            ·subst e; exact hs
            exact heq.out k kh kh2 (by omega))
           have hbad : Hid (h1[j] ≠ h2[j] → ¬ Pp) := hi_ (fun hs kp => hs (by
            have kq := jk (fun l => l[j]?) (hhm.out kp);simp only [ay hlt2, ay hlt3, Ez] at kq;exact kq))
           obtain ⟨x, hx'⟩ : ∃ x, h1[j] = x := ⟨_, rfl⟩;obtain ⟨y, hy'⟩ : ∃ y, h2[j] = y := ⟨_, rfl⟩;rw [hx'] at hcX hstep hbad;rw [hy'] at hcY hstep hbad;obtain ⟨c0, c1, c2⟩ := hcX wr (ae _ _);obtain ⟨d0, d1, d2⟩ := hcY wr (ae _ _);have hi0 : (0 : Int) ≤ (j : Int) := (by omega);have hi1 : (j : Int) < (h1.length : Int) := (by omega);have hi2 : (j : Int) < (h2.length : Int) := (by have := l12h.out; omega);clear hcX hcY hx' hy';by_cases he : x = y
           ·subst he;have hs := hi_ (hstep.out rfl);clear hstep hbad heq;go_wp2_with fail;go_quiet (fail);go_wp2_with fail;go_roundw;case rel => exact ⟨j + 1, by go_num, by omega, hs, hi_ (hz.out.below (qw (ae _ _) nq))⟩
            case measure => simp [intOf] <;> omega
           have hn := hi_ (hbad.out he);have hbF := hz.out.bel;cases e0 : (x.node == y.node) with
           | false =>
            go_wp2_with fail;go_quiet (fail);go_wp2_with fail;go_ret;have hbG := hi_ (qw hbF nq);first | exact ⟨false, rfl, hi_ (fun h => absurd h hn.out), hbG⟩ | (rw [← hMB]; exact ⟨false, rfl, hi_ (fun h => absurd h hn.out), hbG⟩)
           | true =>
            cases e1 : ((x.life : Int) == (y.life : Int)) with
            | false =>
             go_wp2_with fail;go_quiet (fail);go_wp2_with fail;go_ret;have hbG := hi_ (qw hbF nq);first | exact ⟨false, rfl, hi_ (fun h => absurd h hn.out), hbG⟩ | (rw [← hMB]; exact ⟨false, rfl, hi_ (fun h => absurd h hn.out), hbG⟩)
            | true =>
             cases e2 : ((x.ek : Int) == (y.ek : Int)) with
             | false =>
              go_wp2_with fail;go_quiet (fail);go_wp2_with fail;go_ret;have hbG := hi_ (qw hbF nq);first | exact ⟨false, rfl, hi_ (fun h => absurd h hn.out), hbG⟩ | (rw [← hMB]; exact ⟨false, rfl, hi_ (fun h => absurd h hn.out), hbG⟩)
             | true =>
              refine absurd ?_ he;obtain ⟨a0, a1, a2⟩ := x;obtain ⟨z0, z1, z2⟩ := y;obtain rfl : a0 = z0 := (by have h := eq_of_beq e0; dsimp only at h; omega);obtain rfl : a1 = z1 := (by have h := eq_of_beq e1; dsimp only at h; omega);obtain rfl : a2 = z2 := (by have h := eq_of_beq e2; dsimp only at h; omega);rfl
          obtain rfl : j = h1.length := (by omega);have hbF := hi_ hz.out.bel;go_wp2_with fail;go_ret;first | exact ⟨true, rfl, hi_ (fun _ => rfl), hbF⟩ | (rw [← hMB]; exact ⟨true, rfl, hi_ (fun _ => rfl), hbF⟩)
end
section
open Go.RowKit
attribute [local go_sem ↓] Go.wp_at_zero Go.wp_at_succ
set_option maxRecDepth 100000 in
set_option maxHeartbeats 16000000 in
theorem Xk {W : World} (v1 v2 : Value) {o : Oc} (h1 : Cf W v1 o) (h2 : Cf W v2 o) (hu : o.h_.length ≤ 9223372036854775807) (hm : o.vw.length ≤ 9223372036854775807) :
  Calls prog 18 #[v1, v2] W fun e w' => e = .returned (.bool true) ∧ Hid (Below W.heap.size W w') := by
 obtain ⟨aU, cU, aM, cM, rfl, hU, hM⟩ := h1;obtain ⟨bU, dU, bM, dM, rfl, hU2, hM2⟩ := h2;rw [Lu] at hU hM hU2 hM2;have hz2 := ((ny W).dz [.int .i64 o.code, .int .u64 o.session, .int .u64 o.ag, .slice aU o.h_.length cU, .slice aM o.vw.length cM].toArray 35).dz [.int .i64 o.code, .int .u64 o.session, .int .u64 o.ag, .slice bU o.h_.length dU, .slice bM o.vw.length dM].toArray 35;have hsu : Hid (∀ w, Below W.heap.size W w → Calls prog 30 #[.slice aU o.h_.length cU, .slice bU o.h_.length dU] w fun e w' => e = .returned (.bool true) ∧ Below w.heap.size w w') := hi_ (fun w h => by
  have := Gh _ _ o.h_ o.h_ w (hU.below h) (hU2.below h) hu;rwa [b_ rfl] at this)
 have hsm : Hid (∀ w, Below W.heap.size W w → Calls prog 30 #[.slice aM o.vw.length cM, .slice bM o.vw.length dM] w fun e w' => e = .returned (.bool true) ∧ Below w.heap.size w w') := hi_ (fun w h => by
  have := Gh _ _ o.vw o.vw w (hM.below h) (hM2.below h) hm;rwa [b_ rfl] at this)
 generalize hMB : W.heap.size = XB at hz2;generalize hRB : (W.alloc (.cells [.int .i64 o.code, .int .u64 o.session, .int .u64 o.ag, .slice aU o.h_.length cU, .slice aM o.vw.length cM].toArray 35)).heap.size = YB at hz2;generalize hWb : ((W.alloc (.cells [.int .i64 o.code, .int .u64 o.session, .int .u64 o.ag, .slice aU o.h_.length cU, .slice aM o.vw.length cM].toArray 35)).alloc (.cells [.int .i64 o.code, .int .u64 o.session, .int .u64 o.ag, .slice bU o.h_.length dU, .slice bM o.vw.length dM].toArray 35)) = Wb at hz2;obtain ⟨hbX, -⟩ := hz2.box 1 rfl;obtain ⟨hbY, -⟩ := hz2.box 0 rfl;have x0 : Wb.cell? ⟨XB, 0, none⟩ = some (.int .i64 o.code) := bc_ hbX 0;have x1 : Wb.cell? ⟨XB, 1, none⟩ = some (.int .u64 o.session) := bc_ hbX 1;have x2 : Wb.cell? ⟨XB, 2, none⟩ = some (.int .u64 o.ag) := bc_ hbX 2;have x3 : Wb.cell? ⟨XB, 3, none⟩ = some (.slice aU o.h_.length cU) := bc_ hbX 3;have y0 : Wb.cell? ⟨YB, 0, none⟩ = some (.int .i64 o.code) := bc_ hbY 0;have y1 : Wb.cell? ⟨YB, 1, none⟩ = some (.int .u64 o.session) := bc_ hbY 1;have y2 : Wb.cell? ⟨YB, 2, none⟩ = some (.int .u64 o.ag) := bc_ hbY 2;have y3 : Wb.cell? ⟨YB, 3, none⟩ = some (.slice bU o.h_.length dU) := bc_ hbY 3;have hbel := hi_ hz2.bel;replace hz2 := hi_ hz2;clear hbX hbY hU hM hU2 hM2 hu hm;go_enter func18, ntmps18;go_upto_region 1 with fail;clear hWb hRB;go_wp2_with fail;refine (hsu.out Wb hbel.out).mono ?_;rintro e w3 ⟨rfl, hb3⟩;dsimp only;have hz3 := hi_ (hz2.out.below hb3);have hbel3 := hi_ (hbel.out.trans (hb3.mono hbel.out.size));obtain ⟨hbX, -⟩ := hz3.out.box 1 rfl;obtain ⟨hbY, -⟩ := hz3.out.box 0 rfl;clear x0 x1 x2 x3 y0 y1 y2 y3 hb3;have x4 : w3.cell? ⟨XB, 4, none⟩ = some (.slice aM o.vw.length cM) := bc_ hbX 4;have y4 : w3.cell? ⟨YB, 4, none⟩ = some (.slice bM o.vw.length dM) := bc_ hbY 4;clear hbX hbY;go_wp2_with fail;refine (hsm.out w3 hbel3.out).mono ?_;rintro e w4 ⟨rfl, hb4⟩;dsimp only;have hbF := hi_ (hz3.out.below hb4).bel;clear x4 y4 hz3 hb4;go_wp2_with fail;go_ret;first | exact ⟨rfl, hbF⟩ | (rw [← hMB]; exact ⟨rfl, hbF⟩)
end
section
open Go.RowKit
theorem jq.Yw {m : Ml} (h : jq m) : eq_ m where
 b := by have := h.lb; omega
 s := by have := h.ls; omega
 h := by have := h.Pi; omega
 l := fun b hb => by have := (h.boxes b hb).len; omega
 f := fun b hb x hx => by have := Bo ((h.boxes b hb).lets x hx).fl; omega
def Small (o : Oc) : Prop := o.h_.length ≤ 32 ∧ o.vw.length ≤ 32
theorem p9 : Small oc0 := ⟨dw _, dw _⟩
theorem Sn (n : Int) : Small (ocE n) := ⟨dw _, dw _⟩
theorem Re {r : Int × Ml × Oc} (h : Small r.2.2) : Small (mf r).2 := by
 unfold mf;split
 ·exact h
 exact Sn _
theorem jq.dh_ {m : Ml} (h : jq m) {i : Nat} {b : Bx} (hb : m.boxes[i]? = some b) : b.letters.length ≤ 32 := (h.boxes b (mg hb)).len
theorem Xf (m : Ml) (q : Rq) : Small (r_ m q oc0).2.2 := by
 unfold r_;split
 ·exact p9
 split
 ·exact p9
 split
 ·cases m.seats.find? (fun x => x.node == q.node && x.ek == q.ek) <;> exact p9
 split
 ·exact p9
 exact p9
theorem Sl (m : Ml) (q : Rq) : Small (nk m q oc0).2.2 := by
 unfold nk;split
 ·exact p9
 split
 ·exact p9
 split
 ·exact p9
 split <;> exact p9
theorem Sk (m : Ml) (q : Rq) : Small (uo m q oc0).2.2 := by
 unfold uo;split
 ·exact p9
 split <;> exact p9
theorem Sm (m : Ml) (q : Rq) : Small (lq m q oc0).2.2 := by
 unfold lq;split
 ·exact p9
 split
 ·exact p9
 split
 ·exact p9
 split
 ·exact p9
 split
 ·exact p9
 split
 ·exact p9
 exact ⟨by simp, dw _⟩
theorem Ue {m : Ml} (h : jq m) (q : Rq) : Small (pg m q oc0).2.2 := by
 unfold pg;split
 ·exact p9
 split
 ·exact p9
 rename_i i _ b hb;have hl := h.dh_ hb;have hs : Small (pz b.letters q oc0 b.letters.length) := by
  constructor
  ·show ([] ++ zg b.letters q b.letters.length).length ≤ 32;unfold zg;rw [zq, az];exact ed (Am _ _ _) hl
  show ([] ++ zf b.letters q b.letters.length).length ≤ 32;unfold zf;rw [zq, az];exact ed (Am _ _ _) hl
 split
 ·exact p9
 split
 ·exact p9
 split
 ·exact hs
 split
 ·exact p9
 exact hs
theorem Qh {m : Ml} (h : jq m) (q : Rq) : Small (oh m q oc0).2.2 := by
 unfold oh;split
 ·exact p9
 split
 ·exact p9
 rename_i i _ b hb;have hl := h.dh_ hb;have hs : Small { oc0 with h_ := oc0.h_ ++ Di b.letters q } := by
  refine ⟨?_, dw _⟩;show ([] ++ Di b.letters q).length ≤ 32;unfold Di;rw [zq, az];exact ed (lw _ _) hl
 split
 ·exact hs
 split
 ·exact hs
 exact hs
theorem Xg {m : Ml} (h : jq m) (q : Rq) : Small (uw m q oc0).2.2 := by
 unfold uw;split
 ·exact p9
 split
 ·exact p9
 rename_i i _ b hb;have hl := h.dh_ hb;split
 ·exact p9
 split
 ·exact p9
 split
 ·exact p9
 split
 ·exact p9
 split
 ·exact p9
 refine ⟨?_, dw _⟩;show ([] ++ List.range' _ _).length ≤ 32;rw [zq, List.length_range'];exact ed (lw _ _) hl
theorem Od {m : Ml} (h : jq m) (q : Rq) : Small (Bu m q).2.2 := by
 unfold Bu;split
 ·exact Xf m q
 split
 ·exact p9
 split
 ·exact p9
 split
 ·exact Sl m q
 split
 ·exact Sk m q
 split
 ·exact Sm m q
 split
 ·exact Ue h q
 split
 ·exact Qh h q
 split
 ·exact Xg h q
 unfold Jk;split <;> exact p9
theorem Uf {m : Ml} (h : jq m) (q : Rq) : Small (lm m q).2 := by
 unfold lm;split
 ·exact Sn _
 split
 ·exact Re (Od h q)
 split
 ·exact Sn _
 split
 ·exact Sn _
 exact Re (Od (Lf h _ _) q)
theorem Kl {W : World} {v : Value} {m : Ml} (h : pq W v m) : ∃ C : List Value, v = .agg C.toArray ∧ C.length = 6 ∧ ∀ u ∈ C, u.oneCell' = true := by
 obtain ⟨ab, cb, nb, ah, ch, as_, cs, rfl⟩ := h.xu;exact ⟨_, rfl, rfl, yl _ _ _ _ _ _ _ _ _ _ _ _⟩
theorem Kk {W : World} {v : Value} {o : Oc} (h : Cf W v o) : ∃ O : List Value, v = .agg O.toArray ∧ O.length = 5 ∧ ∀ u ∈ O, u.oneCell' = true := by
 obtain ⟨aU, cU, aM, cM, rfl⟩ := h.xu;exact ⟨[_, _, _, _, _], rfl, rfl, Dc _ _ _ _ _ _ _ _ _⟩
theorem Ac.stay {W : World} {q : Rq} {y : RqV} (h : Ac W q y) : jw (fun _ => True) W fun x => Ac x q y := by
 intro w' hw;have h2 : Ac { W with heap := w'.heap } q y := h.below ⟨rfl, rfl, rfl, by
  rcases n_ W.heap.size with h0 | h0
  ·rw [h0]; exact dw _
  have e := ng (show W.heap.size - 1 < W.heap.size by omega);have := (bv.1 ((hw (W.heap.size - 1) trivial (by omega)).trans e)).1;show W.heap.size ≤ w'.heap.size;omega, fun k hk => hw k trivial hk⟩
 exact h2
theorem xz {L N : List Nat} {W w : World} {P : World → Prop} (h : jw (okL L) W P) (hb : Below W.heap.size W w) (hN : ∀ b ∈ N, W.heap.size ≤ b) : jw (okL N) w P :=
 fun x hx => h x (fun k hk hl => (hx k (fun b hb' => by have := hN b hb'; omega) (gy hl hb.size)).trans (hb.block k hl))
theorem Xa {ok ok2 : Nat → Prop} {w' wF : World} {P : World → Prop} (h : jw ok w' P) (hs : w'.heap.size ≤ wF.heap.size) (hF : ∀ k, k < w'.heap.size → ok k → wF.heap[k]? = w'.heap[k]? ∧ ok2 k) : jw ok2 wF P :=
 fun x hx => h x (fun k hk hl => (hx k (hF k hl hk).2 (gy hl hs)).trans (hF k hl hk).1)
def ApT (W0 : World) (MB TB OB : Nat) (CT OT : List Value) (m2 : Ml) (o2 : Oc) (wx : World) : Prop :=
 Below W0.heap.size W0 wx ∧ wx.heap[TB]? = some (.cells CT.toArray 27 (0, 0)) ∧ wx.heap[OB]? = some (.cells OT.toArray 35 (0, 0)) ∧ jw (okL [TB, OB, MB]) wx (fun x => pq x (.agg CT.toArray) m2) ∧ Cf wx (.agg OT.toArray) o2 ∧ CT.length = 6 ∧ (∀ u ∈ CT, u.oneCell' = true) ∧ TB ≠ MB
def ApU (W0 : World) (UB PB : Nat) (CU OP : List Value) (m2 : Ml) (o2 : Oc) (wx : World) : Prop :=
 Below W0.heap.size W0 wx ∧ wx.heap[UB]? = some (.cells CU.toArray 27 (0, 0)) ∧ wx.heap[PB]? = some (.cells OP.toArray 35 (0, 0)) ∧ pq wx (.agg CU.toArray) m2 ∧ Cf wx (.agg OP.toArray) o2 ∧ CU.length = 6
theorem Au {Wd w' w : World} {Ls : List Th} {TB OB : Nat} {CT OT : List Value} {iT iO : Nat} (hz : Zoo Wd w Ls) (hT : Ls[iT]? = some (df TB ([.slice none 0 0, .int .u64 0, .slice none 0 0, .slice none 0 0, .int .u64 0, .int .u64 0] : List Value).toArray 27)) (hO : Ls[iO]? = some (df OB ([.int .i64 0, .int .u64 0, .int .u64 0, .slice none 0 0, .slice none 0 0] : List Value).toArray 35)) (hne : iT ≠ iO) (hbw : Below w'.heap.size w' w) (hCl : CT.length = 6) (hOl : OT.length = 5) :
  ((∀ j, j < CT.length → (w.cell? ⟨TB, 0 + j, none⟩).isSome = true) ∧ ∀ j, w.frozen? ⟨TB, j, none⟩ = false) ∧ Below Wd.heap.size Wd (w.setCells TB 0 CT) ∧ ((∀ j, j < OT.length → ((w.setCells TB 0 CT).cell? ⟨OB, 0 + j, none⟩).isSome = true) ∧ ∀ j, (w.setCells TB 0 CT).frozen? ⟨OB, j, none⟩ = false) ∧
  (Below Wd.heap.size Wd ((w.setCells TB 0 CT).setCells OB 0 OT) ∧ ((w.setCells TB 0 CT).setCells OB 0 OT).heap[TB]? = some (.cells CT.toArray 27 (0, 0)) ∧ ((w.setCells TB 0 CT).setCells OB 0 OT).heap[OB]? = some (.cells OT.toArray 35 (0, 0)) ∧ (∀ k, k < w'.heap.size → k ≠ TB → k ≠ OB → ((w.setCells TB 0 CT).setCells OB 0 OT).heap[k]? = w'.heap[k]?) ∧ w'.heap.size ≤ ((w.setCells TB 0 CT).setCells OB 0 OT).heap.size ∧ Wd.heap.size ≤ TB) := by
 have h1 := hz.m_ iT hT;have h2 := hz.mq iT hT CT hCl;have e1 : (Ls.set iT (df TB CT.toArray 27))[iO]? = some (df OB ([.int .i64 0, .int .u64 0, .int .u64 0, .slice none 0 0, .slice none 0 0] : List Value).toArray 35) := by rw [List.getElem?_set_ne hne]; exact hO
 have h3 := h2.m_ iO e1;have h4 := h2.mq iO e1 OT hOl;have hl := (jl.1 hT).1;have hl2 := (jl.1 hO).1;have e2 : ((Ls.set iT (df TB CT.toArray 27)).set iO (df OB OT.toArray 35))[iT]? = some (df TB CT.toArray 27) := by rw [List.getElem?_set_ne (Ne.symm hne), Qb hl]
 have e3 : ((Ls.set iT (df TB CT.toArray 27)).set iO (df OB OT.toArray 35))[iO]? = some (df OB OT.toArray 35) := by rw [Qb (by rw [gq]; exact hl2)]
 have k1 := o_.sets CT 0 (o_.refl w TB);have k2 := o_.sets OT 0 (o_.refl (w.setCells TB 0 CT) OB);exact ⟨sm_ h1 hCl, h2.bel, sm_ h3 hOl, h4.bel, (h4.box iT e2).1, (h4.box iO e3).1, fun k hk n1 n2 => (k2.block k n2).trans ((k1.block k n1).trans (hbw.block k hk)), ed hbw.size (yw (k1.size.symm.trans k2.size.symm)), (h4.box iT e2).2⟩
theorem L_ {w2 Wd w' wB : World} {MB TB OB n0 : Nat} {CT OT : List Value} {m2 : Ml} {o2 : Oc} (hbd : Below w2.heap.size w2 Wd) (hf : Below Wd.heap.size Wd wB ∧ wB.heap[TB]? = some (.cells CT.toArray 27 (0, 0)) ∧ wB.heap[OB]? = some (.cells OT.toArray 35 (0, 0)) ∧ (∀ k, k < w'.heap.size → k ≠ TB → k ≠ OB → wB.heap[k]? = w'.heap[k]?) ∧ w'.heap.size ≤ wB.heap.size ∧ Wd.heap.size ≤ TB)
  (hv : jw (fun k => n0 ≤ k) w' fun x => pq x (.agg CT.toArray) m2) (ho : jw (fun k => n0 ≤ k) w' fun x => Cf x (.agg OT.toArray) o2) (hT : TB < n0 ∨ w'.heap.size ≤ TB) (hO : OB < n0 ∨ w'.heap.size ≤ OB) (hM : MB < n0) (hM2 : MB < Wd.heap.size) (hCl : CT.length = 6) (hC1 : ∀ u ∈ CT, u.oneCell' = true) : ApT w2 MB TB OB CT OT m2 o2 wB := by
 obtain ⟨h1, h2, h3, h4, h5, h6⟩ := hf;refine ⟨hbd.trans (h1.mono hbd.size), h2, h3, Xa hv h5 (fun k hk hok => ?_), ho _ (fun k hk hl => ?_), hCl, hC1, by omega⟩
 ·have h0 : n0 ≤ k := hok;refine ⟨h4 k hk (by omega) (by omega), fun b hb => ?_⟩;rcases d_.1 hb with rfl | hb
  ·omega
  rcases d_.1 hb with rfl | hb
  ·omega
  rw [dx.1 hb]; omega
 have h0 : n0 ≤ k := hk;exact h4 k hl (by omega) (by omega)
end
end Go.Proofs.YtdobbfjmlnlieaaGreat
