/- Twin (a state in new memory): walked; Opening arguments of shapes that the kit has no word for; Opening arguments that are slices, by what they read as; the; Opening states and requests: what the form says of a paramet; SameBox: walked; ContainsFunc with the closure of mail's Right: walked; mail's l -/
import Derived.Test.YtdobbfjmlnlieaaGreatA01
import Derived.Test.YtdobbfjmlnlieaaGreatA18
import Derived.WalkKit
import Derived.ProofKit
import Derived.OpenShut
import Derived.Test.YtdobbfjmlnlieaaGreatRows
import Derived.SliceStrings
import Derived.Test.YtdobbfjmlnlieaaGreatA12
import Derived.SizedLaws
import Derived.Deep.Slices
import Derived.Test.YtdobbfjmlnlieaaGreatA15
import Derived.Test.YtdobbfjmlnlieaaGreatA13
import Derived.Laws.EntriesVeiled
import Derived.Test.YtdobbfjmlnlieaaGreatA14
namespace Go.Proofs.YtdobbfjmlnlieaaGreat
set_option linter.unusedSimpArgs false
namespace Tryz
end Tryz
open Go.Proofs.Tryz Go.Proofs.YtdobbfjmlnlieaaGreat.Tryz
section
open Go.RowKit
attribute [local go_sem ↓] Go.wp_at_zero Go.wp_at_succ
theorem Zt {W0 W : World} {R B A H T F M N : Th} {lets : List Th} (h : Zoo W0 W (R :: B :: A :: H :: T :: F :: M :: N :: lets)) : Zoo W0 W (A :: H :: T :: F :: M :: N :: (lets ++ [R])) := by
 have h1 : Zoo W0 W (R :: A :: H :: T :: F :: M :: N :: lets) := h.sub (gz _ (j_ _ (j4 _)));exact h1.perm (qx R (A :: H :: T :: F :: M :: N :: lets)).symm
def ga_ (W : World) (m : Ml) (e : Ending) (w' : World) : Prop := ∃ C : List Value, e = .returned (.agg C.toArray) ∧ Hid (jw (fun k => W.heap.size ≤ k) w' fun x => pq x (.agg C.toArray) m) ∧ Hid (Below W.heap.size W w')
set_option maxRecDepth 100000 in
set_option maxHeartbeats 32000000 in
theorem cl_ {W : World} (D : List Value) (m : Ml) (bs : List BxV) (hst : xm W D m bs) (hr : jq m) :
  Calls prog 14 #[.agg D.toArray] W (ga_ W m) := by
 obtain ⟨ab, cb, ah, ch, as_, cs, hD, hbs, hib, hih, his⟩ := hst;have hlD : Hid (D.length = 6) := hi_ (by rw [hD]; rfl);have hbl8 : bs.length ≤ 8 := by have h := hr.lb; rw [← hbs, az] at h; exact h
 have hls : m.seats.length ≤ 16 := hr.ls;have hlh : m.homes.length ≤ 5 := hr.Pi;have hz1 := ((ny W).dz D.toArray 27);generalize hMB : W.heap.size = MB at hz1;generalize hWa : (W.alloc (.cells D.toArray 27)) = Wa at hz1;have hz2 := hz1.dz mlZ.toArray 27;unfold mlZ at hz2;generalize hRB : Wa.heap.size = RB at hz2;generalize hWb : (Wa.alloc (.cells ([.slice none 0 0, .int .u64 0, .slice none 0 0, .slice none 0 0, .int .u64 0, .int .u64 0] : List Value).toArray 27)) = Wb at hz2;have hib0 : Hid (∀ w', Below W.heap.size W w' → zo w' (.slice ab bs.length cb) bs) := hi_ (fun w' h => hib.below h);have hih0 : Hid (∀ w', Below W.heap.size W w' → Rd w' (.slice ah m.homes.length ch) m.homes.length (hmT.cells m.homes)) := hi_ (fun w' h => jf hih h);have his0 : Hid (∀ w', Below W.heap.size W w' → Rd w' (.slice as_ m.seats.length cs) m.seats.length (stT.cells m.seats)) := hi_ (fun w' h => jf his h);replace hz2 := hi_ hz2;replace hD := hi_ hD;replace hbs := hi_ hbs;replace hr := hi_ hr;clear hz1 hib hih his;go_enter func14, ntmps14;go_upto_region 1 with fail;clear hWa hRB hWb;replace hMB := hi_ hMB;obtain ⟨hbM, -⟩ := hz2.out.box 1 rfl;have xF : Wb.cell? ⟨MB, 3, none⟩ = some (.slice as_ m.seats.length cs) := by rw [bc_ hbM 3, ai, hD.out]; rfl
 have hMl : MB < Wb.heap.size := (bv.1 hbM).1;have hMn : MB ≠ Wb.heap.size := zu hMl;have hdw := (his0.out Wb hz2.out.bel).below ((ae _ _).alloc (ax _) (.cells #[] stT.t));clear hbM;go_wp2_with (at_builtin; refine stT.ja rfl (.tmp 7) (.tmp 9) rfl _ _ [] m.seats rfl rfl (RT.Own.empty stT Wb Wb.heap.size rfl) hdw (by simp; omega) ?_);intro v3 w4 hown hgr hat;have hb : Below Wb.heap.size Wb w4 := ((ae _ Wb).alloc (ax _) (.cells #[] stT.t)).grown hgr (by simp) (fun k hk => by simp [Value.ownBlock] at hk; omega);have hf : ∀ g, v3.ownBlock = some g → Wb.heap.size ≤ g := fun k hk => by
  rcases hat k hk with q | q
  ·simp [Value.ownBlock] at q; omega
  omega
 have hz4 := hz2.out.newRow hb hown hf;obtain ⟨aS, cS, rfl⟩ := hown.len;clear hgr hat hf hown hb xF hMl hMn hdw;obtain ⟨hbM, -⟩ := hz4.box 2 rfl;have xF : w4.cell? ⟨MB, 3, none⟩ = some (.slice as_ m.seats.length cs) := by rw [bc_ hbM 3, ai, hD.out]; rfl
 have fF : w4.frozen? ⟨MB, 3, none⟩ = false := bf_ hbM 3;have hz5 := hz4.il 2 rfl 3 (.slice aS m.seats.length cS);clear hbM hz4;go_upto_region 2 with fail;clear xF fF;generalize (w4.setCell ⟨MB, 3, none⟩ (.slice aS m.seats.length cS)) = w1 at hz5 ⊢;have hz3 : Hid (Zoo W w1 _) := hi_ hz5;clear hz5;obtain ⟨D1, hD1'⟩ : ∃ D1 : List Value, D1 = D.set 3 (.slice aS m.seats.length cS) := ⟨_, rfl⟩;have hD1 : Hid (D1 = [.slice ab bs.length cb, .int .u64 m.nv, .slice ah m.homes.length ch, .slice aS m.seats.length cS, .int .u64 m.ns, .int .u64 m.a_]) := hi_ (by rw [hD1', hD.out]; rfl);have hz3 : Hid (Zoo W w1 [stT.row (.slice aS m.seats.length cS) m.seats, df RB ([.slice none 0 0, .int .u64 0, .slice none 0 0, .slice none 0 0, .int .u64 0, .int .u64 0] : List Value).toArray 27, df MB D1.toArray 27]) := hi_ (by rw [hD1']; exact hz3.out);replace hD1' := hi_ hD1';obtain ⟨hbM, -⟩ := hz3.out.box 2 rfl;have xF : w1.cell? ⟨MB, 2, none⟩ = some (.slice ah m.homes.length ch) := by rw [bc_ hbM 2, ai, hD1.out]; rfl
 have hMl : MB < w1.heap.size := (bv.1 hbM).1;have hMn : MB ≠ w1.heap.size := zu hMl;have hdw := (hih0.out w1 hz3.out.bel).below ((ae _ _).alloc (ax _) (.cells #[] hmT.t));clear hbM;go_wp2_with (at_builtin; refine hmT.ja rfl (.tmp 12) (.tmp 14) rfl _ _ [] m.homes rfl rfl (RT.Own.empty hmT w1 w1.heap.size rfl) hdw (by simp; omega) ?_);intro v3 w4 hown hgr hat;have hb : Below w1.heap.size w1 w4 := ((ae _ w1).alloc (ax _) (.cells #[] hmT.t)).grown hgr (by simp) (fun k hk => by simp [Value.ownBlock] at hk; omega);have hf : ∀ g, v3.ownBlock = some g → w1.heap.size ≤ g := fun k hk => by
  rcases hat k hk with q | q
  ·simp [Value.ownBlock] at q; omega
  omega
 have hz4 := hz3.out.newRow hb hown hf;obtain ⟨aH, cH, rfl⟩ := hown.len;clear hgr hat hf hown hb xF hMl hMn hdw;obtain ⟨hbM, -⟩ := hz4.box 3 rfl;have xF : w4.cell? ⟨MB, 2, none⟩ = some (.slice ah m.homes.length ch) := by rw [bc_ hbM 2, ai, hD1.out]; rfl
 have fF : w4.frozen? ⟨MB, 2, none⟩ = false := bf_ hbM 2;have hz5 := hz4.il 3 rfl 2 (.slice aH m.homes.length cH);clear hbM hz4;go_upto_region 3 with fail;clear xF fF;generalize (w4.setCell ⟨MB, 2, none⟩ (.slice aH m.homes.length cH)) = w2 at hz5 ⊢;have hz4 : Hid (Zoo W w2 _) := hi_ hz5;clear hz5;obtain ⟨D2, hD2'⟩ : ∃ D2 : List Value, D2 = D1.set 2 (.slice aH m.homes.length cH) := ⟨_, rfl⟩;have hD2 : Hid (D2 = [.slice ab bs.length cb, .int .u64 m.nv, .slice aH m.homes.length cH, .slice aS m.seats.length cS, .int .u64 m.ns, .int .u64 m.a_]) := hi_ (by rw [hD2', hD1.out]; rfl);have hz5 : Hid (Zoo W w2 (bxT.row (.slice none 0 0) [] :: hmT.row (.slice aH m.homes.length cH) m.homes :: stT.row (.slice aS m.seats.length cS) m.seats :: ma [] :: df RB ([.slice none 0 0, .int .u64 0, .slice none 0 0, .slice none 0 0, .int .u64 0, .int .u64 0] : List Value).toArray 27 :: df MB D2.toArray 27 :: qi [])) := hi_ (by
  have h1 : Zoo W w2 [hmT.row (.slice aH m.homes.length cH) m.homes, stT.row (.slice aS m.seats.length cS) m.seats, df RB ([.slice none 0 0, .int .u64 0, .slice none 0 0, .slice none 0 0, .int .u64 0, .int .u64 0] : List Value).toArray 27, df MB D2.toArray 27] := by rw [hD2']; exact hz4.out
  have h2 := (Ir h1).swap.he_;exact h2.newRow (ae _ _) (RT.Own.nil bxT w2) (fun g hg => by simp [Value.ownBlock] at hg))
 replace hD2' := hi_ hD2';clear hz2 hz3 hz4;go_wp2_with fail;go_loopw [3, 4] (fun v3 v4 wr => ∃ (i : Nat) (aL : Option Addr) (cL : Nat) (out : List BxV) (S : List (Value × List (List UInt8))), v3 = .slice aL out.length cL ∧ v4 = .int .i64 i ∧ i ≤ bs.length ∧ Hid (out.map BxV.b = (bs.take i).map BxV.b ∧ Pz S out) ∧ Hid (Zoo W wr (bxT.row (.slice aL out.length cL) out :: hmT.row (.slice aH m.homes.length cH) m.homes :: stT.row (.slice aS m.seats.length cS) m.seats :: ma S :: df RB ([.slice none 0 0, .int .u64 0, .slice none 0 0, .slice none 0 0, .int .u64 0, .int .u64 0] : List Value).toArray 27 :: df MB D2.toArray 27 :: qi out))) (fun _ v4 _ => bs.length - (intOf v4).toNat);case atStart => exact ⟨0, none, 0, [], [], rfl, rfl, dw _, hi_ ⟨rfl, fun y hy => by cases hy⟩, hz5⟩
 case round =>
  clear hz5;obtain ⟨i, aL, cL, out, S, rfl, rfl, hi, hd, hz⟩ := hrel;have hol : Hid (out.length ≤ 8) := hi_ (by
   have h := jk List.length hd.out.1;rw [az, az, bf] at h;omega)
  obtain ⟨hbM, -⟩ := hz.out.box 5 rfl;have x0 : wr.cell? ⟨MB, 0, none⟩ = some (.slice ab bs.length cb) := by rw [bc_ hbM 0, ai, hD2.out]; rfl
  by_cases hlt : i < bs.length
  ·have hbw := hib0.out wr hz.out.bel;obtain ⟨b, bo, hab, hc⟩ := Bw hbw hlt;obtain ⟨z, hzz⟩ : ∃ z, bs[i] = z := ⟨_, rfl⟩;rw [hzz] at hc;have hzm : z ∈ bs := hzz ▸ bg hlt;have hzL0 : Hid (∀ w', Below W.heap.size W w' → ve w' z.v z.rows) := hi_ (fun w' h => (hib0.out w' h).2 z hzm);have hBP := hi_ (hr.out.boxes z.b (by rw [← hbs.out]; exact jo hzm));have hrl : z.rows.length ≤ 32 := (by have h := hBP.out.len; rw [xk] at h; exact h);have r0 : wr.cell? ⟨b, bo + i * 5, none⟩ = some (.string z.name) := hc wr (ae _ _) 0 _ rfl;have r1 : wr.cell? ⟨b, bo + i * 5 + 1, none⟩ = some (.int .u64 z.ag) := hc wr (ae _ _) 1 _ rfl;have r2 : wr.cell? ⟨b, bo + i * 5 + 2, none⟩ = some (.int .u64 z.next) := hc wr (ae _ _) 2 _ rfl;have r3 : wr.cell? ⟨b, bo + i * 5 + 3, none⟩ = some (.int .u64 z.high) := hc wr (ae _ _) 3 _ rfl;have r4 : wr.cell? ⟨b, bo + i * 5 + 4, none⟩ = some (.slice z.a z.rows.length z.c) := hc wr (ae _ _) 4 _ rfl;rw [hab] at x0;have hi0 : (0 : Int) ≤ (i : Int) := (by omega);have hi1 : (i : Int) < (bs.length : Int) := (by omega);replace hzz := hi_ hzz;clear hc hab hbw hbM;go_upto_region 8 with fail;have hzb := hz.out.dz ([.string z.name, .int .u64 z.ag, .int .u64 z.next, .int .u64 z.high, .slice z.a z.rows.length z.c] : List Value).toArray 48;change Code.wp _ _ _ _ (wr.alloc (.cells ([.string z.name, .int .u64 z.ag, .int .u64 z.next, .int .u64 z.high, .slice z.a z.rows.length z.c] : List Value).toArray 48));clear r0 r1 r2 r3 r4 x0 hz;generalize (wr.alloc (.cells ([.string z.name, .int .u64 z.ag, .int .u64 z.next, .int .u64 z.high, .slice z.a z.rows.length z.c] : List Value).toArray 48)) = w3 at hzb ⊢;generalize wr.heap.size = BB at hzb ⊢;obtain ⟨hbB, -⟩ := hzb.box 0 rfl;have b4 : w3.cell? ⟨BB, 4, none⟩ = some (.slice z.a z.rows.length z.c) := bc_ hbB 4;have hBl : BB < w3.heap.size := (bv.1 hbB).1;have hBn : BB ≠ w3.heap.size := zu hBl;have hdw := (hzL0.out w3 hzb.bel).1.below ((ae _ _).alloc (ax _) (.cells #[] 50));replace hzb := hi_ hzb;clear hbB;go_wp2_with (at_builtin; refine ltT.ja rfl (.tmp 29) (.tmp 31) rfl _ _ [] z.rows rfl rfl (RT.Own.empty ltT w3 w3.heap.size rfl) hdw (by simp; omega) ?_);intro v3 w4 hown hgr hat;have hb : Below w3.heap.size w3 w4 := ((ae _ w3).alloc (ax _) (.cells #[] 50)).grown hgr (by simp) (fun k hk => by simp [Value.ownBlock] at hk; omega);have hf : ∀ g, v3.ownBlock = some g → w3.heap.size ≤ g := fun k hk => by
    rcases hat k hk with q | q
    ·simp [Value.ownBlock] at q; omega
    omega
   have hz4 := hzb.out.newRow hb hown hf;obtain ⟨aB, cB, rfl⟩ := hown.len;clear hgr hat hf hown hb b4 hBl hBn hdw hzb;obtain ⟨hbB, -⟩ := hz4.box 1 rfl;have b4 : w4.cell? ⟨BB, 4, none⟩ = some (.slice z.a z.rows.length z.c) := bc_ hbB 4;have f4 : w4.frozen? ⟨BB, 4, none⟩ = false := bf_ hbB 4;have hz5 := hz4.il 1 rfl 4 (.slice aB z.rows.length cB);clear hbB hz4;go_upto_region 9 with fail;clear b4 f4;generalize (w4.setCell ⟨BB, 4, none⟩ (.slice aB z.rows.length cB)) = w5 at hz5 ⊢;have hz6 : Hid (Zoo W w5 (ltT.row (.slice aB z.rows.length cB) z.rows :: df BB ([.string z.name, .int .u64 z.ag, .int .u64 z.next, .int .u64 z.high, .slice aB z.rows.length cB] : List Value).toArray 48 :: bxT.row (.slice aL out.length cL) out :: hmT.row (.slice aH m.homes.length cH) m.homes :: stT.row (.slice aS m.seats.length cS) m.seats :: ma S :: df RB ([.slice none 0 0, .int .u64 0, .slice none 0 0, .slice none 0 0, .int .u64 0, .int .u64 0] : List Value).toArray 27 :: df MB D2.toArray 27 :: qi out)) := hi_ hz5;clear hz5;go_wp2_with fail;go_loopw [6] (fun v6 wr => ∃ (k : Nat) (done : List LtV) (S : List (Value × List (List UInt8))), v6 = .int .i64 k ∧ k ≤ z.rows.length ∧ Hid (done.length = k ∧ Nh done (z.rows.take k) ∧ Hg S done ∧ Pz S out) ∧ Hid (Zoo W wr (ltT.row (.slice aB z.rows.length cB) (done ++ z.rows.drop k) :: df BB ([.string z.name, .int .u64 z.ag, .int .u64 z.next, .int .u64 z.high, .slice aB z.rows.length cB] : List Value).toArray 48 :: bxT.row (.slice aL out.length cL) out :: hmT.row (.slice aH m.homes.length cH) m.homes :: stT.row (.slice aS m.seats.length cS) m.seats :: ma S :: df RB ([.slice none 0 0, .int .u64 0, .slice none 0 0, .slice none 0 0, .int .u64 0, .int .u64 0] : List Value).toArray 27 :: df MB D2.toArray 27 :: qi out))) (fun v6 _ => z.rows.length - (intOf v6).toNat);case atStart => exact ⟨0, [], S, rfl, dw _, hi_ ⟨rfl, rfl, fun y hy => by simp at hy, hd.out.2⟩, hz6⟩
   case round =>
    clear hz6;obtain ⟨k, done, S, rfl, hk, he, hz⟩ := hrel;have hlen : (done ++ z.rows.drop k).length = z.rows.length := (by rw [bz, he.out.1, iq]; omega);obtain ⟨hbB, -⟩ := hz.out.box 1 rfl;have b4 : wr.cell? ⟨BB, 4, none⟩ = some (.slice aB z.rows.length cB) := bc_ hbB 4;by_cases hlt2 : k < z.rows.length
    ·have hl0 : (0 : Int) ≤ (k : Int) := (by omega);have hl1 : (k : Int) < (z.rows.length : Int) := (by omega);have hget : (done ++ z.rows.drop k)[k]'(by omega) = z.rows[k] := by
      rw [K_ (by rw [he.out.1]; exact ax _), Lc];congr 1;rw [he.out.1]; omega
     obtain ⟨x, hx⟩ : ∃ x, z.rows[k] = x := ⟨_, rfl⟩;have hxm : x ∈ z.rows := (by rw [← hx]; exact bg hlt2);have hxl := Bo (hBP.out.lets x.x (jo hxm)).fl;obtain ⟨g, cap, hv, hcap, hg, hcells⟩ := (hz.out.own 0 rfl).cells (j := k) (by omega);rw [hlen] at hv hcap;injection hv with e1 e2 e3;subst e1 e3;have r1 := hcells 1 (by decide);rw [hget, hx] at r1;replace r1 : wr.cell? ⟨g, k * 5 + 1, none⟩ = some x.v := r1;have hfx0 : Hid (∀ w', Below W.heap.size W w' → Cq w' x.v x.x.flags) := hi_ (fun w' h => (hzL0.out w' h).2 x hxm);obtain ⟨xx, xa, xc⟩ := x;unfold LtV.v at r1 hfx0;dsimp only at r1 hfx0 hxl;have hBl : BB < wr.heap.size := (bv.1 hbB).1;have hS12 : Hid (∀ w', Below wr.heap.size wr w' → w'.cell? ⟨BB, 4, none⟩ = some (.slice (some ⟨g, 0, none⟩) z.rows.length cB) ∧ w'.cell? ⟨g, k * 5 + 1, none⟩ = some (.slice xa xx.flags.length xc)) := hi_ (fun w' h => ⟨(h.cell (p := ⟨BB, 4, none⟩) hBl).trans b4, (h.cell (p := ⟨g, k * 5 + 1, none⟩) hg).trans r1⟩);replace hx := hi_ hx;replace hget := hi_ hget;replace hlen := hi_ hlen;clear hcells hbB hxm;go_upto_region 12 with fail;clear b4 r1;have hbd : Below wr.heap.size wr wr.drew := (ae _ _).drew;have hzd := hz.out.drew;refine wr_ (fun w' => w'.cell? ⟨BB, 4, none⟩ = some (.slice (some ⟨g, 0, none⟩) z.rows.length cB) ∧ w'.cell? ⟨g, k * 5 + 1, none⟩ = some (.slice xa xx.flags.length xc)) 11 3 (hS12.out _ hbd) fun hok hS0 => ?_;generalize wr.drew = We at *;refine av hok 0 ?_;refine av hok 1 ?_;refine av hok 2 ?_;refine av hok 4 ?_;refine av hok 5 ?_;refine av hok 6 ?_;refine av hok 7 ?_;refine av hok 8 ?_;refine av hok 9 ?_;refine g_ 3 fun K hK => ?_;go_simp;have hba := (ae We.heap.size We).alloc (ax _) (.cells #[] flT.t);have hbe := hbd.trans (hba.mono hbd.size);have hSn := hS12.out _ hbe;have hown0 := RT.Own.empty flT We We.heap.size rfl;have hfw : Rd (We.alloc (.cells #[] flT.t)) (.slice xa xx.flags.length xc) xx.flags.length (flT.cells xx.flags) := (by rw [Iu]; exact hfx0.out _ (hzd.bel.trans (hba.mono hzd.bel.size)));have hnb : We.heap.size < (We.alloc (.cells #[] flT.t)).heap.size := (by simp);change K _ (We.alloc (.cells #[] flT.t));generalize (We.alloc (.cells #[] flT.t)) = Wf at hba hbe hSn hown0 hfw hnb ⊢;generalize hNB : We.heap.size = NB at hown0 hba hnb ⊢;refine hK _ _ hSn ?_;clear hK K;try simp only [nrm_, Act.put]
     refine g_ 10 fun K hK => ?_;refine flT.jv rfl (.tmp 44) (.tmp 50) rfl _ _ [] xx.flags rfl rfl hown0 hfw (by simp; omega) ?_;intro v8 w8 ho8 hg8 hat8;have hlo8 : ∀ g, v8.ownBlock = some g → NB ≤ g := fun k hk => by
      rcases hat8 k hk with h | h
      ·have h : some NB = some k := h;have := jc h;omega
      omega
     have hb8 : Below NB We w8 := hba.grown hg8 (Nat.le_of_lt hnb) (fun k hk => by have h : some NB = some k := hk; have := jc h; omega);rw [← hNB] at hb8 hlo8;obtain ⟨a3, c3, rfl⟩ := ho8.len;have hSn := hS12.out _ (hbd.trans (hb8.mono hbd.size));refine hK _ _ hSn ?_;clear hK K;refine kw ?_;have hfn : Cq w8 (.slice a3 xx.flags.length c3) xx.flags := (by have h := ho8.rd; rw [Iu] at h; exact h);have hz5 := hzd.Rz 5 rfl hb8 hfn hlo8;obtain ⟨g', cap', hv, -, -, -, hfr, hz6⟩ := hz5.Fh 0 rfl k (by rw [hlen.out]; exact hlt2) 1 (by decide) (.slice a3 xx.flags.length c3) ⟨xx, a3, c3⟩ (by rw [hget.out, hx.out]; rfl);rw [hlen.out] at hv;injection hv with e1 e2 e3;injection e1 with e1;injection e1 with e1;subst e1;have f1 := hfr (k * 5 + 1);have r1 := hSn.2;have hd2 : Hid ((done ++ [(⟨xx, a3, c3⟩ : LtV)]).length = k + 1 ∧ Nh (done ++ [(⟨xx, a3, c3⟩ : LtV)]) (z.rows.take (k + 1)) ∧ Hg ((.slice a3 xx.flags.length c3, xx.flags) :: S) (done ++ [(⟨xx, a3, c3⟩ : LtV)]) ∧ Pz ((.slice a3 xx.flags.length c3, xx.flags) :: S) out) := hi_ (by
      refine ⟨by rw [bz, he.out.1]; rfl, ?_, fun w hw => ?_, fun y hy p hp => jh _ (he.out.2.2.2 y hy p hp)⟩
      ·have := he.out.2.1;unfold Nh at this ⊢;rw [ak hlt2, fo, fo, this, hx.out]; rfl
      rcases fe.1 hw with hw | hw
      ·exact jh _ (he.out.2.2.1 w hw)
      rw [dx.1 hw];exact wu ..)
     have hst : (done ++ z.rows.drop k).set k ⟨xx, a3, c3⟩ = (done ++ [(⟨xx, a3, c3⟩ : LtV)]) ++ z.rows.drop (k + 1) := by
      rw [t_ _ _ (by rw [he.out.1]; exact ax _), he.out.1, Nat.sub_self, pu hlt2, jd]; rfl
     rw [hst] at hz6;have hz7 := hi_ hz6;clear hz hz5 hz6 hfr hst ho8 hg8 hat8 hb8 hlo8 hfn hok hS0 hS12 he hx hget hlen hown0 hfw hba hbe hNB hnb hbd hzd hfx0 hSn;go_wp2_with fail;go_roundw;case rel => exact ⟨k + 1, _, _, by go_num, by omega, hd2, hz7⟩
     case measure => simp [intOf] <;> omega
    obtain rfl : k = z.rows.length := (by omega);have hl1 : ¬ ((z.rows.length : Int) < (z.rows.length : Int)) := (by omega);have hzE := hz.out;rw [wy, jy] at hzE;have h1 := he.out.2.1;rw [gp] at h1;obtain ⟨y, hy⟩ : ∃ y : BxV, y = ⟨z.name, z.ag, z.next, z.high, done, aB, cB⟩ := ⟨_, rfl⟩;have hdl : done.length = z.rows.length := he.out.1;have hyb : y.b = z.b := by
     rw [hy];show Bx.mk z.name z.ag z.next z.high (done.map LtV.x) = Bx.mk z.name z.ag z.next z.high (z.rows.map LtV.x);rw [h1]
    have hd2 : Hid ((out ++ [y]).map BxV.b = (bs.take (i + 1)).map BxV.b ∧ Pz S (out ++ [y])) := hi_ ⟨by rw [ak hlt, fo, fo, hd.out.1, hzz.out, Jy, Jy, hyb], fun w hw => by
     rcases fe.1 hw with hw | hw
     ·exact he.out.2.2.2 w hw
     rw [dx.1 hw, hy];exact he.out.2.2.1⟩
    have b0 : wr.cell? ⟨BB, 0, none⟩ = some (.string y.name) := (by rw [hy]; exact bc_ hbB 0);have b1 : wr.cell? ⟨BB, 1, none⟩ = some (.int .u64 y.ag) := (by rw [hy]; exact bc_ hbB 1);have b2 : wr.cell? ⟨BB, 2, none⟩ = some (.int .u64 y.next) := (by rw [hy]; exact bc_ hbB 2);have b3 : wr.cell? ⟨BB, 3, none⟩ = some (.int .u64 y.high) := (by rw [hy]; exact bc_ hbB 3);go_upto_region 13 with fail;clear b4 hl1;have b4 : wr.cell? ⟨BB, 4, none⟩ = some (.slice y.a y.rows.length y.c) := (by rw [hy]; show wr.cell? ⟨BB, 4, none⟩ = some (Value.slice aB done.length cB); rw [hdl]; exact bc_ hbB 4);have hzF : Zoo W wr ((bxT.row (.slice aL out.length cL) out :: hmT.row (.slice aH m.homes.length cH) m.homes :: stT.row (.slice aS m.seats.length cS) m.seats :: ma S :: df RB ([.slice none 0 0, .int .u64 0, .slice none 0 0, .slice none 0 0, .int .u64 0, .int .u64 0] : List Value).toArray 27 :: df MB D2.toArray 27 :: qi out) ++ [ltT.row y.v y.rows]) := by
     have h2 := Zt hzE;rw [hy];show Zoo W wr ((bxT.row (.slice aL out.length cL) out :: hmT.row (.slice aH m.homes.length cH) m.homes :: stT.row (.slice aS m.seats.length cS) m.seats :: ma S :: df RB ([.slice none 0 0, .int .u64 0, .slice none 0 0, .slice none 0 0, .int .u64 0, .int .u64 0] : List Value).toArray 27 :: df MB D2.toArray 27 :: qi out) ++ [ltT.row (.slice aB done.length cB) done]);rw [hdl]; exact h2
    have hzA := tu hzF (.cells (bxT.enc y).toArray 48);have hown1 := hi_ (RT.Own.one bxT wr y wr.heap.size rfl).rd;obtain ⟨Ft, ⟨ho1, hFt⟩, -, hact⟩ := hzA.act 0 (bxT.row (.slice aL out.length cL) out) rfl;replace ho1 := hi_ ho1;replace hFt := hi_ hFt;replace hact := hi_ hact;clear hzA hbB hzE hzF h1 hdl hyb hy he hz;go_wp2_with (at_builtin; refine bxT.ja rfl (.tmp 54) (.tmp 56) rfl _ _ out [y] rfl rfl ho1.out hown1.out (by rw [bi]; have := hol.out; omega) ?_);intro v8 w8 ho8 hg8 hat8;have hz8 := hact.out (bxT.row v8 (out ++ [y])) (fun k => v8.ownBlock = some k) w8 ⟨ho8, fun _ => j6⟩ (iy hFt.out hg8 (fun g hg => (hat8 g hg).imp_right (fun h => by simpa using h)));obtain ⟨a8, c8, hv8⟩ := ho8.len;subst hv8;have hll : qi (out ++ [y]) = qi out ++ [ltT.row y.v y.rows] := fo ..;have hz9 : Hid (Zoo W w8 (bxT.row (.slice a8 (out ++ [y]).length c8) (out ++ [y]) :: hmT.row (.slice aH m.homes.length cH) m.homes :: stT.row (.slice aS m.seats.length cS) m.seats :: ma S :: df RB ([.slice none 0 0, .int .u64 0, .slice none 0 0, .slice none 0 0, .int .u64 0, .int .u64 0] : List Value).toArray 27 :: df MB D2.toArray 27 :: qi (out ++ [y]))) := hi_ (by rw [hll]; exact hz8);clear hact ho8 hg8 hat8 ho1 hFt hown1 b0 b1 b2 b3 b4 hz8 hll;go_wp2_with fail;go_roundw;case rel => exact ⟨i + 1, a8, c8, out ++ [y], S, rfl, by go_num, by omega, hd2, hz9⟩
    case measure => simp [intOf] <;> omega
  obtain rfl : i = bs.length := by omega
  have hi2 : ¬ ((bs.length : Int) < (bs.length : Int)) := by omega
  have hob : Hid (out.map BxV.b = m.boxes ∧ Pz S out) := hi_ ⟨by rw [hd.out.1, gp, hbs.out], hd.out.2⟩;have f0 : wr.frozen? ⟨MB, 0, none⟩ = false := bf_ hbM 0;generalize hno : out.length = no at hz ⊢;have hzT := hz.out.il 5 rfl 0 (.slice aL no cL);replace hno := hi_ hno;clear hbM hz hd hol;go_upto_region 15 with fail;clear hi2 x0 f0;generalize (wr.setCell ⟨MB, 0, none⟩ (.slice aL no cL)) = w11 at hzT ⊢;obtain ⟨D3, hD3⟩ : ∃ D3 : List Value, D3 = D2.set 0 (.slice aL no cL) := ⟨_, rfl⟩;have hD3e : Hid (D3 = [.slice aL no cL, .int .u64 m.nv, .slice aH m.homes.length cH, .slice aS m.seats.length cS, .int .u64 m.ns, .int .u64 m.a_]) := hi_ (by rw [hD3, hD2.out]; rfl);have hl3 : Hid (D3.length = 6) := hi_ (by rw [hD3e.out]; rfl);have hsz3 : Hid (∀ w, (Go.sizeOf 27).run prog w = .ok D3.length w) := hi_ (fun w => by rw [hl3.out]; exact sizeOf27 w);have h13 : Hid (∀ v ∈ D3, v.oneCell' = true) := hi_ (by rw [hD3e.out]; exact xy _ _ _ _ _ _ _ _ _ _ _ _);have hzU : Zoo W w11 (bxT.row (.slice aL no cL) out :: hmT.row (.slice aH m.homes.length cH) m.homes :: stT.row (.slice aS m.seats.length cS) m.seats :: ma S :: df RB ([.slice none 0 0, .int .u64 0, .slice none 0 0, .slice none 0 0, .int .u64 0, .int .u64 0] : List Value).toArray 27 :: df MB D3.toArray 27 :: qi out) := by rw [hD3]; exact hzT
  obtain ⟨hbM, -⟩ := hzU.box 5 rfl;have hld := hi_ (fun j v (hj : D3[j]? = some v) => (show w11.cell? ⟨MB, 0 + j, none⟩ = some v by rw [di, bc_ hbM j, ai]; exact hj));have hs1 := hzU.m_ 4 rfl;have hs1' := hi_ (bu (fun j (hj : j < D3.length) => hs1.1 j (by rw [hl3.out] at hj; exact hj)) hs1.2);have hzF := hi_ (hzU.mq 4 rfl D3 hl3.out);replace hD3 := hi_ hD3;clear hbM hs1 hzU hzT;go_wp2_with (first
   | refine Dk rfl 27 (.tmp 1) rfl MB 0 D3 (by rfl) isAgg27 hsz3.out hld.out ?_
   | (refine ru rfl 27 (.tmp 2) (.tmp 60) rfl RB 0 D3 (by rfl) (by rfl) hsz3.out h13.out hs1'.out.1 hs1'.out.2 ?_; refine Ae ?_))
  refine hi_ ?_;generalize (w11.setCells RB 0 D3) = w12 at hzF ⊢;clear hs1' hld;go_wp2_with fail;refine bodyPost_ret (Bp rfl _ _ RB D3 rfl (hzF.out.box 4 rfl).1 isAgg27 hsz3.out) rfl ?_;refine ⟨D3, rfl, hi_ (Zoo.stay hzF.out (fun _ _ => rfl) (fun W0 w' hz => ?_) (fun _ _ h hb => h.below hb)), hi_ hzF.out.bel⟩;have h1 := hz.sub (L' := zk (.slice aL no cL) (.slice aH m.homes.length cH) (.slice aS m.seats.length cS) out m.homes m.seats S) (by unfold zk; simp);have h2 := Rc h1 hob.out.2 hob.out.1;rw [hD3e.out];exact h2
end
section
open Go.ChangeShapes Go.WideShapes Go.ChangeAt Go.RowKit
end
section
open Go.ChangeShapes Go.WideShapes Go.ChangeAt Go.RowKit
theorem cell_spot {w : World} {a : Addr} {v : Value} (h : w.cell? a = some v) : a.spot = none ∧ a.block < w.heap.size := by
 unfold World.cell? at h;split at h
 ·rename_i heq;refine ⟨?_, (bv.1 heq).1⟩;cases hs : a.spot with
  | none => rfl
  | some x => simp [hs] at h
 cases h
end
section
open Go.ChangeShapes Go.WideShapes Go.ChangeAt Go.RowKit Go.Deep
theorem Ky {a : Addr} (hs : a.spot = none) (i : Nat) : a.add i = ⟨a.block, a.off + i, none⟩ := by
 cases a with
 | mk x y z => simp at hs; subst hs; exact zx ..
theorem Wo (a : Addr) (hs : a.spot = none) (i j : Nat) : (a.add i).add j = ⟨a.block, a.off + i + j, none⟩ := by
 rw [Ky hs]; exact zx ..
theorem fn_ {n : Int} (h : (Lit.int .u64 n).wf = true) : ∃ k : Nat, n = (k : Int) := by
 have := bounds_u64 h;exact ⟨n.toNat, by omega⟩
section
variable {H : Type} {enc : TypeId × Value → H} {w : World} {base : Nat} {spare : Nat → Bool} {held : Bool}
theorem jb {P : Program} {m : Nat} {fs : Array Field} {cs : List Value} {xs : List (DataW H × List MemPlace)}
  (h : ∀ (i : Nat) (f : Field), fs[i]? = some f → DataW.trod enc P w base spare held m f.type ((cs.drop f.offset).take (P.cellsOf f.type)) = xs[i]?) (i : Nat) {f : Field} {t o n : Nat} {cs' : List Value} {x : DataW H × List MemPlace}
  (hf : fs[i]? = some f) (ht : f.type = t) (ho : f.offset = o) (hc : P.cellsOf t = n) (hcs : (cs.drop o).take n = cs') (hx : xs[i]? = some x) : DataW.trod enc P w base spare held m t cs' = some x := by
 subst ht ho hc hcs;rw [h i f hf, hx]
theorem og {cs : List Value} {y : DataW H × List MemPlace} {fuel : Nat} (h : DataW.trod enc prog w base spare held fuel 23 cs = some y) : ∃ n : Nat, cs = [.int .u64 n] := by
 obtain ⟨n, hcs, _, hw⟩ := DataW.trod_int underlying23 h;obtain ⟨k, rfl⟩ := fn_ hw;exact ⟨k, hcs⟩
theorem open_int {cs : List Value} {y : DataW H × List MemPlace} {fuel : Nat} (h : DataW.trod enc prog w base spare held fuel 3 cs = some y) : ∃ n : Int, cs = [.int .i64 n] := by
 obtain ⟨n, hcs, _, _⟩ := DataW.trod_int underlying3 h;exact ⟨n, hcs⟩
theorem open_bool {cs : List Value} {y : DataW H × List MemPlace} {fuel : Nat} (h : DataW.trod enc prog w base spare held fuel 4 cs = some y) : ∃ n : Bool, cs = [.bool n] := by
 obtain ⟨n, hcs, _⟩ := DataW.trod_bool underlying4 h;exact ⟨n, hcs⟩
theorem Hz {cs : List Value} {y : DataW H × List MemPlace} {fuel : Nat} (h : DataW.trod enc prog w base spare held fuel 9 cs = some y) : ∃ n : ByteArray, cs = [.string n] := by
 obtain ⟨n, hcs, _, _⟩ := DataW.trod_string underlying9 h;exact ⟨n, hcs⟩
theorem Mt {cs : List Value} {y : DataW H × List MemPlace} {fuel : Nat} (h : DataW.trod enc prog w base spare held fuel 39 cs = some y) :
  ∃ (a : Option Addr) (l : List (List UInt8)) (cap : Nat), cs = [.slice a l.length cap] ∧ Cq w (.slice a l.length cap) l := by
 rcases open_strings underlying39 underlying9 (by kernel_rfl) h with ⟨hcs, hx⟩ | ⟨a, len, cap, ss, hcs, _, hl, hm, hz, hx, hcell, hsz⟩
 ·exact ⟨none, [], 0, hcs, none, 0, rfl, .inl rfl⟩
 have hle : len ≤ ss.length := by rw [hz]; split <;> omega
 have hll : ((ss.take len).map (·.data.toList)).length = len := by rw [az, bf]; omega
 refine ⟨some a, (ss.take len).map (·.data.toList), cap, by rw [hll]; exact hcs, some a, cap, rfl, ?_⟩;rcases n_ len with h0 | h0
 ·exact .inl (by rw [hll]; exact h0)
 right;obtain ⟨hs, hb⟩ := cell_spot (hcell 0 (by omega));have e0 : a.add 0 = a := rfl;rw [e0] at hs hb;refine ⟨a.block, a.off, by cases a; simp at hs; subst hs; rfl, hb, by rw [hll]; exact hl, fun i u hu => ?_⟩;have hi : i < len := by
  have := (jl.1 hu).1;rw [az, hll] at this;exact this
 have hc := hcell i (by omega);rw [Ky hs] at hc;rw [hc];have hget : (((ss.take len).map (·.data.toList)).map encStr)[i]? = some (.string (ss.getD i ByteArray.empty)) := by
  rw [ji, ji, List.getElem?_take_of_lt hi, ay (by omega)];simp [List.getD, ay (show i < ss.length by omega), encStr]
 rw [hget] at hu;exact hu
theorem open_row {α : Type} [Inhabited α] (R : RT α) {Q : α → Prop} (hc : prog.cellsOf R.t = R.K)
  (elem : ∀ {fuel : Nat} {cs : List Value} {y : DataW H × List MemPlace}, cs.length = R.K → DataW.trod enc prog w base spare held fuel R.t cs = some y → ∃ x, cs = R.enc x ∧ Q x)
  {cs : List Value} {y : DataW H × List MemPlace} {fuel : Nat} (h : DataW.trod enc prog w base spare held fuel R.ts cs = some y) :
  ∃ (a : Option Addr) (l : List α) (cap : Nat), cs = [.slice a l.length cap] ∧ Rd w (.slice a l.length cap) l.length (R.cells l) ∧ ∀ x ∈ l, Q x := by
 rcases open_slice R.und h with ⟨hcs, _⟩ | ⟨a, len, cap, m, n, D, Pl, hcs, _, hl, hm, hmm, _, hall⟩
 ·exact ⟨none, [], 0, hcs, ⟨none, 0, rfl, .inl rfl⟩, fun x hx => by cases hx⟩
 have hlm : len ≤ m := by rw [hmm]; split <;> omega
 rw [hc] at hall;obtain ⟨q, hq⟩ := choose_lt (α := α) (n := len) (p := fun i x => (∀ j, j < R.K → w.cell? ((a.add (i * R.K)).add j) = (R.enc x)[j]?) ∧ Q x) (fun i hi => by
  obtain ⟨cs', hc', ht⟩ := hall i (by omega);obtain ⟨_, hcl, hat⟩ := World.cells?_some hc';obtain ⟨x, rfl, hx⟩ := elem hcl ht;exact ⟨x, hat, hx⟩)
 have hlen : ((List.range len).map q).length = len := by simp
 refine ⟨some a, (List.range len).map q, cap, by rw [hlen]; exact hcs, ⟨some a, cap, rfl, ?_⟩, fun x hx => ?_⟩
 ·rcases n_ len with hz | hz
  ·exact .inl (by rw [hlen]; exact hz)
  right;have hpos := R.pos;have c0 := (hq 0 (by omega)).1 0 hpos;have e0 : (a.add (0 * R.K)).add 0 = a := by rw [Nat.zero_mul]; rfl
  rw [e0, ay (by rw [R.len]; exact hpos)] at c0;obtain ⟨hsp, hbl⟩ := cell_spot c0;refine ⟨a.block, a.off, by cases a; simp at hsp; subst hsp; rfl, hbl, by rw [hlen]; exact hl, fun i u hu => ?_⟩;have hi := (jl.1 hu).1;rw [R.kg, hlen] at hi;have hd : i / R.K < len := Nat.div_lt_of_lt_mul (by rw [Cy]; exact hi);have hr : i % R.K < R.K := Gs _ hpos;have hsplit : i / R.K * R.K + i % R.K = i := by rw [Cy]; exact Qd i R.K
  have g := (hq (i / R.K) hd).1 (i % R.K) hr;rw [Wo a hsp, qa, hsplit] at g;rw [g];have hg := R.yo ((List.range len).map q) (i / R.K) (by rw [hlen]; exact hd) (i % R.K) hr;rw [hsplit, hu, ou, List.getElem_range] at hg;exact hg.symm
 obtain ⟨i, hi, rfl⟩ := List.mem_map.1 hx;exact (hq i (List.mem_range.1 hi)).2
theorem zh : prog.cellsOf 23 = 1 := by kernel_rfl
theorem Vy : prog.cellsOf 3 = 1 := by kernel_rfl
theorem gs_ : prog.cellsOf 4 = 1 := by kernel_rfl
theorem Vx : prog.cellsOf 9 = 1 := by kernel_rfl
theorem eb_ : prog.cellsOf 39 = 1 := by kernel_rfl
theorem hl_ : prog.cellsOf 46 = 1 := by kernel_rfl
theorem hn_ : prog.cellsOf 22 = 1 := by kernel_rfl
theorem hm_ : prog.cellsOf 24 = 1 := by kernel_rfl
theorem hj_ : prog.cellsOf 25 = 1 := by kernel_rfl
theorem hk_ : prog.cellsOf 38 = 1 := by kernel_rfl
instance : Inhabited LtV := ⟨⟨⟨0, [], 0, ⟨#[]⟩, 0⟩, none, 0⟩⟩
instance : Inhabited BxV := ⟨⟨⟨#[]⟩, 0, 0, 0, [], none, 0⟩⟩
instance : Inhabited Hm := ⟨⟨0, 0, 0⟩⟩
instance : Inhabited St := ⟨⟨0, 0, 0, 0, 0⟩⟩
instance : Inhabited RqP := ⟨⟨0, 0, 0, 0, 0, 0, ⟨#[]⟩, ⟨#[]⟩, 0, [], [], 0, false, 0, ⟨#[]⟩, 0, 0⟩, ⟨none, 0, none, 0⟩⟩
set_option maxRecDepth 10000 in
set_option maxHeartbeats 4000000 in
theorem fj_ {cs : List Value} {y : DataW H × List MemPlace} {fuel : Nat} (hl : cs.length = 5) (h : DataW.trod enc prog w base spare held fuel 50 cs = some y) : ∃ k : LtV, cs = ltT.enc k ∧ Cq w k.v k.x.flags := by
 match cs, hl with
 | [c0, c1, c2, c3, c4], _ =>
  obtain ⟨xs, m, _, _, _, hx, hall⟩ := zw underlying50 h;match xs, hx with
  | [x0, x1, x2, x3, x4], _ =>
   obtain ⟨uid, e0⟩ := og (jb hall 0 (o := 0) (cs' := [c0]) rfl rfl rfl zh rfl rfl);obtain ⟨fa, fl, fc, e1, hf⟩ := Mt (jb hall 1 (o := 1) (cs' := [c1]) rfl rfl rfl eb_ rfl rfl);obtain ⟨md, e2⟩ := og (jb hall 2 (o := 2) (cs' := [c2]) rfl rfl rfl zh rfl rfl);obtain ⟨hs, e3⟩ := Hz (jb hall 3 (o := 3) (cs' := [c3]) rfl rfl rfl Vx rfl rfl);obtain ⟨sz, e4⟩ := og (jb hall 4 (o := 4) (cs' := [c4]) rfl rfl rfl zh rfl rfl);simp only [uy, and_true] at e0 e1 e2 e3 e4;subst e0 e1 e2 e3 e4;exact ⟨⟨⟨uid, fl, md, hs, sz⟩, fa, fc⟩, rfl, hf⟩
set_option maxRecDepth 10000 in
set_option maxHeartbeats 4000000 in
theorem fl_ {cs : List Value} {y : DataW H × List MemPlace} {fuel : Nat} (hl : cs.length = 5) (h : DataW.trod enc prog w base spare held fuel 48 cs = some y) : ∃ k : BxV, cs = bxT.enc k ∧ ve w k.v k.rows := by
 match cs, hl with
 | [c0, c1, c2, c3, c4], _ =>
  obtain ⟨xs, m, _, _, _, hx, hall⟩ := zw underlying48 h;match xs, hx with
  | [x0, x1, x2, x3, x4], _ =>
   obtain ⟨nm, e0⟩ := Hz (jb hall 0 (o := 0) (cs' := [c0]) rfl rfl rfl Vx rfl rfl);obtain ⟨va, e1⟩ := og (jb hall 1 (o := 1) (cs' := [c1]) rfl rfl rfl zh rfl rfl);obtain ⟨nx, e2⟩ := og (jb hall 2 (o := 2) (cs' := [c2]) rfl rfl rfl zh rfl rfl);obtain ⟨hg, e3⟩ := og (jb hall 3 (o := 3) (cs' := [c3]) rfl rfl rfl zh rfl rfl);obtain ⟨la, ll, lc, e4, ⟨hr, hq⟩⟩ := open_row ltT (Q := fun k => Cq w k.v k.x.flags) (by kernel_rfl) (fun hl ht => fj_ hl ht) (jb hall 4 (o := 4) (cs' := [c4]) rfl rfl rfl hl_ rfl rfl);simp only [uy, and_true] at e0 e1 e2 e3 e4;subst e0 e1 e2 e3 e4;exact ⟨⟨nm, va, nx, hg, ll, la, lc⟩, rfl, hr, hq⟩
set_option maxRecDepth 10000 in
set_option maxHeartbeats 4000000 in
theorem fk_ {cs : List Value} {y : DataW H × List MemPlace} {fuel : Nat} (hl : cs.length = 3) (h : DataW.trod enc prog w base spare held fuel 67 cs = some y) : ∃ k : Hm, cs = hmT.enc k ∧ True := by
 match cs, hl with
 | [c0, c1, c2], _ =>
  obtain ⟨xs, m, _, _, _, hx, hall⟩ := zw underlying67 h;match xs, hx with
  | [x0, x1, x2], _ =>
   obtain ⟨nd, e0⟩ := open_int (jb hall 0 (o := 0) (cs' := [c0]) rfl rfl rfl Vy rfl rfl);obtain ⟨li, e1⟩ := og (jb hall 1 (o := 1) (cs' := [c1]) rfl rfl rfl zh rfl rfl);obtain ⟨tr, e2⟩ := og (jb hall 2 (o := 2) (cs' := [c2]) rfl rfl rfl zh rfl rfl);simp only [uy, and_true] at e0 e1 e2;subst e0 e1 e2;exact ⟨⟨nd, li, tr⟩, rfl, trivial⟩
set_option maxRecDepth 10000 in
set_option maxHeartbeats 4000000 in
theorem ff_ {cs : List Value} {y : DataW H × List MemPlace} {fuel : Nat} (hl : cs.length = 5) (h : DataW.trod enc prog w base spare held fuel 69 cs = some y) : ∃ k : St, cs = stT.enc k ∧ True := by
 match cs, hl with
 | [c0, c1, c2, c3, c4], _ =>
  obtain ⟨xs, m, _, _, _, hx, hall⟩ := zw underlying69 h;match xs, hx with
  | [x0, x1, x2, x3, x4], _ =>
   obtain ⟨se, e0⟩ := og (jb hall 0 (o := 0) (cs' := [c0]) rfl rfl rfl zh rfl rfl);obtain ⟨la, e1⟩ := og (jb hall 1 (o := 1) (cs' := [c1]) rfl rfl rfl zh rfl rfl);obtain ⟨nd, e2⟩ := open_int (jb hall 2 (o := 2) (cs' := [c2]) rfl rfl rfl Vy rfl rfl);obtain ⟨li, e3⟩ := og (jb hall 3 (o := 3) (cs' := [c3]) rfl rfl rfl zh rfl rfl);obtain ⟨tr, e4⟩ := og (jb hall 4 (o := 4) (cs' := [c4]) rfl rfl rfl zh rfl rfl);simp only [uy, and_true] at e0 e1 e2 e3 e4;subst e0 e1 e2 e3 e4;exact ⟨⟨se, la, nd, li, tr⟩, rfl, trivial⟩
set_option maxRecDepth 10000 in
set_option maxHeartbeats 4000000 in
theorem fi_ {cs : List Value} {y : DataW H × List MemPlace} {fuel : Nat} (hl : cs.length = 6) (h : DataW.trod enc prog w base spare held fuel 27 cs = some y) : ∃ m : Ml, pq w (.agg cs.toArray) m := by
 match cs, hl with
 | [c0, c1, c2, c3, c4, c5], _ =>
  obtain ⟨xs, m, _, _, _, hx, hall⟩ := zw underlying27 h;match xs, hx with
  | [x0, x1, x2, x3, x4, x5], _ =>
   obtain ⟨ba, bl, bc, e0, ⟨hr, hq⟩⟩ := open_row bxT (Q := fun k => ve w k.v k.rows) (by kernel_rfl) (fun hl ht => fl_ hl ht) (jb hall 0 (o := 0) (cs' := [c0]) rfl rfl rfl hn_ rfl rfl);obtain ⟨nv, e1⟩ := og (jb hall 1 (o := 1) (cs' := [c1]) rfl rfl rfl zh rfl rfl);obtain ⟨ha, hl2, hc, e2, ⟨hh, _⟩⟩ := open_row hmT (Q := fun _ => True) (by kernel_rfl) (fun hl ht => fk_ hl ht) (jb hall 2 (o := 2) (cs' := [c2]) rfl rfl rfl hm_ rfl rfl);obtain ⟨sa, sl, sc, e3, ⟨hs, _⟩⟩ := open_row stT (Q := fun _ => True) (by kernel_rfl) (fun hl ht => ff_ hl ht) (jb hall 3 (o := 3) (cs' := [c3]) rfl rfl rfl hj_ rfl rfl);obtain ⟨ns, e4⟩ := og (jb hall 4 (o := 4) (cs' := [c4]) rfl rfl rfl zh rfl rfl);obtain ⟨sw, e5⟩ := og (jb hall 5 (o := 5) (cs' := [c5]) rfl rfl rfl zh rfl rfl);simp only [uy, and_true] at e0 e1 e2 e3 e4 e5;subst e0 e1 e2 e3 e4 e5;exact ⟨⟨bl.map BxV.b, nv, hl2, sl, ns, sw⟩, _, _, _, bl, rfl, rfl, ⟨hr, hq⟩, hh, hs⟩
theorem fh_ {cs : List Value} {y : DataW H × List MemPlace} {fuel : Nat} (hl : cs.length = 2) (h : DataW.trod enc prog w base spare held fuel 129 cs = some y) : ∃ k : Rng, cs = [.int .u64 k.1, .int .u64 k.2] := by
 match cs, hl with
 | [c0, c1], _ =>
  obtain ⟨xs, m, _, _, _, hx, hall⟩ := zw underlying129 h;match xs, hx with
  | [x0, x1], _ =>
   obtain ⟨a, e0⟩ := og (jb hall 0 (o := 0) (cs' := [c0]) rfl rfl rfl zh rfl rfl);obtain ⟨b, e1⟩ := og (jb hall 1 (o := 1) (cs' := [c1]) rfl rfl rfl zh rfl rfl);simp only [uy, and_true] at e0 e1;subst e0 e1;exact ⟨(a, b), rfl⟩
theorem cw_ {cs : List Value} {y : DataW H × List MemPlace} {fuel : Nat} (h : DataW.trod enc prog w base spare held fuel 38 cs = some y) :
  ∃ (a : Option Addr) (l : List Rng) (cap : Nat), cs = [.slice a l.length cap] ∧ p_ w w.heap.size (.slice a l.length cap) l := by
 rcases open_slice underlying38 h with ⟨hcs, _⟩ | ⟨a, len, cap, m, n, D, Pl, hcs, _, hl, hm, hmm, _, hall⟩
 ·exact ⟨none, [], 0, hcs, none, 0, rfl, .inl rfl⟩
 have hlm : len ≤ m := by rw [hmm]; split <;> omega
 rw [show prog.cellsOf 129 = 2 by kernel_rfl] at hall;obtain ⟨q, hq⟩ := choose_lt (α := Rng) (n := len) (p := fun i k => ∀ j, j < 2 → w.cell? ((a.add (i * 2)).add j) = ([.int .u64 k.1, .int .u64 k.2] : List Value)[j]?) (fun i hi => by
  obtain ⟨cs', hc, ht⟩ := hall i (by omega);obtain ⟨_, hcl, hat⟩ := World.cells?_some hc;obtain ⟨k, rfl⟩ := fh_ hcl ht;exact ⟨k, hat⟩)
 have hlen : ((List.range len).map q).length = len := by simp
 refine ⟨some a, (List.range len).map q, cap, by rw [hlen]; exact hcs, some a, cap, by rw [hlen], ?_⟩;rcases n_ len with hz | hz
 ·exact .inl (eu (by rw [hlen]; exact hz))
 right;have c0 := (hq 0 (by omega)) 0 (by decide);have e0 : (a.add (0 * 2)).add 0 = a := rfl;rw [e0] at c0;obtain ⟨hsp, hbl⟩ := cell_spot c0;refine ⟨a.block, a.off, by cases a; simp at hsp; subst hsp; rfl, hbl, by rw [hlen]; exact hl, fun j hj => ?_⟩;rw [hlen] at hj;have g := hq j hj;simp only [Wo a hsp] at g;rw [ou, List.getElem_range];exact ⟨g 0 (by decide), g 1 (by decide)⟩
set_option maxRecDepth 10000 in
set_option maxHeartbeats 4000000 in
theorem fg_ {cs : List Value} {y : DataW H × List MemPlace} {fuel : Nat} (hl : cs.length = 17) (h : DataW.trod enc prog w base spare held fuel 41 cs = some y) : ∃ k : RqP, cs = rqT.enc k ∧ Ac w k.1 k.2 := by
 match cs, hl with
 | [c0, c1, c2, c3, c4, c5, c6, c7, c8, c9, c10, c11, c12, c13, c14, c15, c16], _ =>
  obtain ⟨xs, m, _, _, _, hx, hall⟩ := zw underlying41 h;match xs, hx with
  | [x0, x1, x2, x3, x4, x5, x6, x7, x8, x9, x10, x11, x12, x13, x14, x15, x16], _ =>
   obtain ⟨op, e0⟩ := open_int (jb hall 0 (o := 0) (cs' := [c0]) rfl rfl rfl Vy rfl rfl);obtain ⟨se, e1⟩ := og (jb hall 1 (o := 1) (cs' := [c1]) rfl rfl rfl zh rfl rfl);obtain ⟨nu, e2⟩ := og (jb hall 2 (o := 2) (cs' := [c2]) rfl rfl rfl zh rfl rfl);obtain ⟨nd, e3⟩ := open_int (jb hall 3 (o := 3) (cs' := [c3]) rfl rfl rfl Vy rfl rfl);obtain ⟨li, e4⟩ := og (jb hall 4 (o := 4) (cs' := [c4]) rfl rfl rfl zh rfl rfl);obtain ⟨tr, e5⟩ := og (jb hall 5 (o := 5) (cs' := [c5]) rfl rfl rfl zh rfl rfl);obtain ⟨bx, e6⟩ := Hz (jb hall 6 (o := 6) (cs' := [c6]) rfl rfl rfl Vx rfl rfl);obtain ⟨too, e7⟩ := Hz (jb hall 7 (o := 7) (cs' := [c7]) rfl rfl rfl Vx rfl rfl);obtain ⟨va, e8⟩ := og (jb hall 8 (o := 8) (cs' := [c8]) rfl rfl rfl zh rfl rfl);obtain ⟨ua, ul, uc, e9, hu⟩ := cw_ (jb hall 9 (o := 9) (cs' := [c9]) rfl rfl rfl hk_ rfl rfl);obtain ⟨fa, fl, fc, e10, hf⟩ := Mt (jb hall 10 (o := 10) (cs' := [c10]) rfl rfl rfl eb_ rfl rfl);obtain ⟨hw, e11⟩ := open_int (jb hall 11 (o := 11) (cs' := [c11]) rfl rfl rfl Vy rfl rfl);obtain ⟨ha, e12⟩ := open_bool (jb hall 12 (o := 12) (cs' := [c12]) rfl rfl rfl gs_ rfl rfl);obtain ⟨si, e13⟩ := og (jb hall 13 (o := 13) (cs' := [c13]) rfl rfl rfl zh rfl rfl);obtain ⟨hs, e14⟩ := Hz (jb hall 14 (o := 14) (cs' := [c14]) rfl rfl rfl Vx rfl rfl);obtain ⟨sz, e15⟩ := og (jb hall 15 (o := 15) (cs' := [c15]) rfl rfl rfl zh rfl rfl);obtain ⟨sw, e16⟩ := og (jb hall 16 (o := 16) (cs' := [c16]) rfl rfl rfl zh rfl rfl);simp only [uy, and_true] at e0 e1 e2 e3 e4 e5 e6 e7 e8 e9 e10 e11 e12 e13 e14 e15 e16;subst e0 e1 e2 e3 e4 e5 e6 e7 e8 e9 e10 e11 e12 e13 e14 e15 e16;exact ⟨⟨⟨op, se, nu, nd, li, tr, bx, too, va, ul, fl, hw, ha, si, hs, sz, sw⟩, ⟨ua, uc, fa, fc⟩⟩, rfl, hu, hf⟩
set_option maxRecDepth 10000 in
theorem ha_ {r : Reach} {b : Nat} {v : Value} {d : DataW H} {p : List MemPlace} (hv : Value.okWide prog w r b 27 v) (h : DataW.Trod enc prog w base spare held 27 v d p) : ∃ m : Ml, pq w v m := by
 obtain ⟨cs, rfl, hsz⟩ := okWide_struct underlying27 hv;rw [show prog.cellsOf 27 = 6 by kernel_rfl] at hsz;obtain ⟨l⟩ := cs;obtain ⟨fuel, hf⟩ := h;simp only [Value.cells] at hf;exact fi_ (by simpa using hsz) hf
set_option maxRecDepth 10000 in
theorem gz_ {r : Reach} {b : Nat} {v : Value} {d : DataW H} {p : List MemPlace} (hv : Value.okWide prog w r b 28 v) (h : DataW.Trod enc prog w base spare held 28 v d p) : ∃ l : List RqP, Ji w v l := by
 obtain ⟨a0, len, cap, rfl⟩ := okWide_slice underlying28 hv;obtain ⟨fuel, hf⟩ := h;simp only [Value.cells] at hf;obtain ⟨a, l, c, hcs, hr, hq⟩ := open_row rqT (Q := fun k => Ac w k.1 k.2) (by kernel_rfl) (fun hl ht => fg_ hl ht) hf;have : a0 = a ∧ len = l.length ∧ cap = c := by simpa using hcs
 obtain ⟨rfl, rfl, rfl⟩ := this;exact ⟨l, hr, hq⟩
end
end
section
open Go.RowKit
attribute [local go_sem ↓] Go.wp_at_zero Go.wp_at_succ
set_option maxRecDepth 100000 in
set_option maxHeartbeats 16000000 in
theorem Um {W : World} (X Y : BxV) (hX : ve W X.v X.rows) (hY : ve W Y.v Y.rows) (hl : X.rows.length ≤ 1000000) (hfl : ∀ y ∈ X.rows, y.x.flags.length * 16 ≤ 140737488355328) :
  Calls prog 20 #[Gy X, Gy Y] W (Jh (X.b = Y.b) W) := by
 obtain ⟨nm, va, nx, hg, rows, xa, xc⟩ := X;obtain ⟨nm2, va2, nx2, hg2, rows2, ya, yc⟩ := Y;dsimp only at hl hfl;have hX0 : Hid (∀ w', Below W.heap.size W w' → ve w' (.slice xa rows.length xc) rows) := hi_ (fun w' h => hX.below h);have hY0 : Hid (∀ w', Below W.heap.size W w' → ve w' (.slice ya rows2.length yc) rows2) := hi_ (fun w' h => hY.below h);obtain ⟨Pp, hP⟩ : ∃ Pp : Prop, Pp = ((⟨nm, va, nx, hg, rows.map LtV.x⟩ : Bx) = ⟨nm2, va2, nx2, hg2, rows2.map LtV.x⟩) := ⟨_, rfl⟩;show Calls prog 20 #[.agg #[.string nm, .int .u64 va, .int .u64 nx, .int .u64 hg, .slice xa rows.length xc], .agg #[.string nm2, .int .u64 va2, .int .u64 nx2, .int .u64 hg2, .slice ya rows2.length yc]] W (Jh ((⟨nm, va, nx, hg, rows.map LtV.x⟩ : Bx) = ⟨nm2, va2, nx2, hg2, rows2.map LtV.x⟩) W);rw [← hP];replace hP := hi_ hP;replace hfl := hi_ hfl;have hz2 := ((ny W).dz [.string nm, .int .u64 va, .int .u64 nx, .int .u64 hg, .slice xa rows.length xc].toArray 48).dz [.string nm2, .int .u64 va2, .int .u64 nx2, .int .u64 hg2, .slice ya rows2.length yc].toArray 48;have hlt : W.heap.size < (W.alloc (.cells [.string nm, .int .u64 va, .int .u64 nx, .int .u64 hg, .slice xa rows.length xc].toArray 48)).heap.size := by simp
 generalize hMB : W.heap.size = MB at hz2 hlt;generalize hRB : (W.alloc (.cells [.string nm, .int .u64 va, .int .u64 nx, .int .u64 hg, .slice xa rows.length xc].toArray 48)).heap.size = RB at hz2 hlt;generalize hWb : ((W.alloc (.cells [.string nm, .int .u64 va, .int .u64 nx, .int .u64 hg, .slice xa rows.length xc].toArray 48)).alloc (.cells [.string nm2, .int .u64 va2, .int .u64 nx2, .int .u64 hg2, .slice ya rows2.length yc].toArray 48)) = Wb at hz2;obtain ⟨hbX, -⟩ := hz2.box 1 rfl;obtain ⟨x0, x1, x2, x3, x4⟩ := bx5 hbX;obtain ⟨hbY, -⟩ := hz2.box 0 rfl;obtain ⟨y0, y1, y2, y3, y4⟩ := bx5 hbY;clear hbX hbY hX hY;have hbel := hi_ hz2.bel;replace hz2 := hi_ hz2;go_enter func20, ntmps20;go_upto_region 1 with fail;clear hWb hRB;cases t0 : (nm.toList == nm2.toList) with
 | false =>
  have hn := hi_ (show ¬ Pp from fun h => by rw [hP.out] at h; have h2 := jk Bx.name h; dsimp only at h2; rw [h2] at t0; simp at t0);have t0' : (nm.toList != nm2.toList) = true := by simpa [bne] using t0
  clear hX0 hY0;go_wp2_with fail;go_ret;first | exact ⟨false, rfl, hi_ ⟨nofun, fun h => absurd h hn.out⟩, hbel⟩ | (rw [← hMB]; exact ⟨false, rfl, hi_ ⟨nofun, fun h => absurd h hn.out⟩, hbel⟩)
 | true =>
  obtain rfl : nm = nm2 := Ct (eq_of_beq t0);have t0' : (nm.toList != nm.toList) = false := by simp
  cases t1 : ((va : Int) == (va2 : Int)) with
  | false =>
   have hn := hi_ (show ¬ Pp from fun h => by rw [hP.out] at h; have h2 := jk Bx.ag h; dsimp only at h2; rw [h2] at t1; simp at t1);have t1' : ((va : Int) != (va2 : Int)) = true := (by simpa [bne] using t1);clear hX0 hY0;go_wp2_with fail;go_ret;first | exact ⟨false, rfl, hi_ ⟨nofun, fun h => absurd h hn.out⟩, hbel⟩ | (rw [← hMB]; exact ⟨false, rfl, hi_ ⟨nofun, fun h => absurd h hn.out⟩, hbel⟩)
  | true =>
   obtain rfl : va = va2 := (by have h := eq_of_beq t1; omega);have t1' : ((va : Int) != (va : Int)) = false := (by simp);cases t2 : ((nx : Int) == (nx2 : Int)) with
   | false =>
    have hn := hi_ (show ¬ Pp from fun h => by rw [hP.out] at h; have h2 := jk Bx.next h; dsimp only at h2; rw [h2] at t2; simp at t2);have t2' : ((nx : Int) != (nx2 : Int)) = true := (by simpa [bne] using t2);clear hX0 hY0;go_wp2_with fail;go_ret;first | exact ⟨false, rfl, hi_ ⟨nofun, fun h => absurd h hn.out⟩, hbel⟩ | (rw [← hMB]; exact ⟨false, rfl, hi_ ⟨nofun, fun h => absurd h hn.out⟩, hbel⟩)
   | true =>
    obtain rfl : nx = nx2 := (by have h := eq_of_beq t2; omega);have t2' : ((nx : Int) != (nx : Int)) = false := (by simp);cases t3 : ((hg : Int) == (hg2 : Int)) with
    | false =>
     have hn := hi_ (show ¬ Pp from fun h => by rw [hP.out] at h; have h2 := jk Bx.high h; dsimp only at h2; rw [h2] at t3; simp at t3);have t3' : ((hg : Int) != (hg2 : Int)) = true := (by simpa [bne] using t3);clear hX0 hY0;go_wp2_with fail;go_ret;first | exact ⟨false, rfl, hi_ ⟨nofun, fun h => absurd h hn.out⟩, hbel⟩ | (rw [← hMB]; exact ⟨false, rfl, hi_ ⟨nofun, fun h => absurd h hn.out⟩, hbel⟩)
    | true =>
     obtain rfl : hg = hg2 := (by have h := eq_of_beq t3; omega);have t3' : ((hg : Int) != (hg : Int)) = false := (by simp);cases t4 : ((rows.length : Int) == (rows2.length : Int)) with
     | false =>
      have hn := hi_ (show ¬ Pp from fun h => by rw [hP.out] at h; have h2 := jk (fun b : Bx => b.letters.length) h; simp only [az] at h2; rw [h2] at t4; simp at t4);have t4' : ((rows.length : Int) != (rows2.length : Int)) = true := (by simpa [bne] using t4);clear hX0 hY0;go_wp2_with fail;go_ret;first | exact ⟨false, rfl, hi_ ⟨nofun, fun h => absurd h hn.out⟩, hbel⟩ | (rw [← hMB]; exact ⟨false, rfl, hi_ ⟨nofun, fun h => absurd h hn.out⟩, hbel⟩)
     | true =>
      have t4' : ((rows.length : Int) != (rows2.length : Int)) = false := (by simpa [bne] using t4);have hlen : Hid (rows2.length = rows.length) := hi_ (by have h := eq_of_beq t4; omega);rw [hlen.out] at t4 t4' y4 hz2 hY0;go_wp2_with fail;clear x0 x1 x2 x3 x4 y0 y1 y2 y3 y4 t0 t1 t2 t3 t4 t0' t1' t2' t3' t4';go_loopw [5] (fun v5 wr => ∃ j : Nat, v5 = .int .i64 j ∧ j ≤ rows.length ∧ Hid (∀ k (h : k < rows.length) (h2 : k < rows2.length), k < j → rows[k].x = rows2[k].x) ∧ Hid (Zoo W wr [df RB [.string nm, .int .u64 va, .int .u64 nx, .int .u64 hg, .slice ya rows.length yc].toArray 48, df MB [.string nm, .int .u64 va, .int .u64 nx, .int .u64 hg, .slice xa rows.length xc].toArray 48])) (fun v5 _ => rows.length - (intOf v5).toNat);case atStart => exact ⟨0, rfl, dw _, hi_ (fun k h h2 hk => absurd hk (Du _)), hz2⟩
      case round =>
       clear hz2;obtain ⟨j, rfl, hj, heq, hz⟩ := hrel;obtain ⟨hbX, -⟩ := hz.out.box 1 rfl;have x4 : wr.cell? ⟨MB, 4, none⟩ = some (.slice xa rows.length xc) := bc_ hbX 4;clear hbX;by_cases hlt2 : j < rows.length
       ·have hlt3 : j < rows2.length := (by rw [hlen.out]; exact hlt2);have hinX := hX0.out wr hz.out.bel;have hinY := hY0.out wr hz.out.bel;obtain ⟨b, bo, cap, hv, hcX⟩ := hinX.Fw hlt2;injection hv with hv1 hv2 hv3;subst hv1 hv3;obtain ⟨b2, bo2, cap2, hv, hcY⟩ := ve.Fw (v := .slice ya rows2.length yc) (by rw [hlen.out]; exact hinY) hlt3;injection hv with hv1 hv2 hv3;subst hv1 hv3;have hstep : rows[j].x = rows2[j].x → ∀ k (h : k < rows.length) (h2 : k < rows2.length), k < j + 1 → rows[k].x = rows2[k].x := fun hs k h h2 hk => by
         by_cases e : k = j
         ·subst e; exact hs
         exact heq.out k h h2 (by omega)
        have hbad : rows[j].x ≠ rows2[j].x → ¬ Pp := fun hs h => hs (by
         rw [hP.out] at h;have h2 := jk (fun b : Bx => b.letters[j]?) h;simp only [ji, ay hlt2, ay hlt3, Bi, Ez] at h2;exact h2)
        have hfX := hinX.2 _ (bg hlt2);have hfY := hinY.2 _ (bg hlt3);have hfl1 := hfl.out _ (bg hlt2);obtain ⟨z, hz'⟩ : ∃ z, rows[j] = z := ⟨_, rfl⟩;obtain ⟨y, hy'⟩ : ∃ y, rows2[j] = y := ⟨_, rfl⟩;rw [hz'] at hcX hstep hbad hfX hfl1;rw [hy'] at hcY hstep hbad hfY;have hcall : Hid (∀ w', Below wr.heap.size wr w' → Calls prog 25 #[.agg #[.int .u64 z.x.uid, .slice z.a z.x.flags.length z.c, .int .u64 z.x.mod, .string z.x.hash, .int .u64 z.x.size], .agg #[.int .u64 y.x.uid, .slice y.a y.x.flags.length y.c, .int .u64 y.x.mod, .string y.x.hash, .int .u64 y.x.size]] w' (Jh (z.x = y.x) w')) := hi_ (fun w' hb => Xl z y (hfX.below hb) (hfY.below hb) hfl1);have hi0 : (0 : Int) ≤ (j : Int) := (by omega);have hi1 : (j : Int) < (rows.length : Int) := (by omega);replace hstep := hi_ hstep;replace hbad := hi_ hbad;replace hcX : Hid (∀ W', Below wr.heap.size wr W' → W'.cell? ⟨b, bo + j * 5, none⟩ = some (.int .u64 z.x.uid) ∧ W'.cell? ⟨b, bo + j * 5 + 1, none⟩ = some (.slice z.a z.x.flags.length z.c) ∧ W'.cell? ⟨b, bo + j * 5 + 2, none⟩ = some (.int .u64 z.x.mod) ∧ W'.cell? ⟨b, bo + j * 5 + 3, none⟩ = some (.string z.x.hash) ∧ W'.cell? ⟨b, bo + j * 5 + 4, none⟩ = some (.int .u64 z.x.size)) := hi_ hcX;replace hcY : Hid (∀ W', Below wr.heap.size wr W' → W'.cell? ⟨b2, bo2 + j * 5, none⟩ = some (.int .u64 y.x.uid) ∧ W'.cell? ⟨b2, bo2 + j * 5 + 1, none⟩ = some (.slice y.a y.x.flags.length y.c) ∧ W'.cell? ⟨b2, bo2 + j * 5 + 2, none⟩ = some (.int .u64 y.x.mod) ∧ W'.cell? ⟨b2, bo2 + j * 5 + 3, none⟩ = some (.string y.x.hash) ∧ W'.cell? ⟨b2, bo2 + j * 5 + 4, none⟩ = some (.int .u64 y.x.size)) := hi_ hcY;have hd := (ae wr.heap.size wr);clear hinX hinY hfX hfY hfl1 hz' hy' hlt3;go_wp2_with fail;have hzd := hz.out.drew;replace hd := hd.drew;have hcXd := hcX.out _ hd;have hcYd := hcY.out _ hd;obtain ⟨c0, c1, c2, c3, c4⟩ := hcXd;obtain ⟨d0, d1, d2, d3, d4⟩ := hcYd;obtain ⟨hbX, -⟩ := hzd.box 1 rfl;obtain ⟨hbY, -⟩ := hzd.box 0 rfl;have hS : wr.drew.cell? ⟨MB, 4, none⟩ = some (.slice (some ⟨b, bo, none⟩) rows.length xc) ∧ wr.drew.cell? ⟨RB, 4, none⟩ = some (.slice (some ⟨b2, bo2, none⟩) rows.length yc) := ⟨bc_ hbX 4, bc_ hbY 4⟩;clear x4 hbX hbY;refine wr_ (fun w' => (w'.cell? ⟨MB, 4, none⟩ = some (.slice (some ⟨b, bo, none⟩) rows.length xc) ∧ w'.cell? ⟨RB, 4, none⟩ = some (.slice (some ⟨b2, bo2, none⟩) rows.length yc)) ∧ (w'.cell? ⟨b, bo + j * 5, none⟩ = some (.int .u64 z.x.uid) ∧ w'.cell? ⟨b, bo + j * 5 + 1, none⟩ = some (.slice z.a z.x.flags.length z.c) ∧ w'.cell? ⟨b, bo + j * 5 + 2, none⟩ = some (.int .u64 z.x.mod) ∧ w'.cell? ⟨b, bo + j * 5 + 3, none⟩ = some (.string z.x.hash) ∧ w'.cell? ⟨b, bo + j * 5 + 4, none⟩ = some (.int .u64 z.x.size)) ∧ (w'.cell? ⟨b2, bo2 + j * 5, none⟩ = some (.int .u64 y.x.uid) ∧ w'.cell? ⟨b2, bo2 + j * 5 + 1, none⟩ = some (.slice y.a y.x.flags.length y.c) ∧ w'.cell? ⟨b2, bo2 + j * 5 + 2, none⟩ = some (.int .u64 y.x.mod) ∧ w'.cell? ⟨b2, bo2 + j * 5 + 3, none⟩ = some (.string y.x.hash) ∧ w'.cell? ⟨b2, bo2 + j * 5 + 4, none⟩ = some (.int .u64 y.x.size))) 11 1 ⟨hS, ⟨c0, c1, c2, c3, c4⟩, ⟨d0, d1, d2, d3, d4⟩⟩ fun hok hS0 => ?_;have hcall2 := hi_ (hcall.out _ hd);generalize wr.drew = Wd at *;refine av hok 0 ?_;refine av hok 1 ?_;refine av hok 2 ?_;refine av hok 3 ?_;refine av hok 4 ?_;refine av hok 5 ?_;refine av hok 6 ?_;refine av hok 7 ?_;refine av hok 8 ?_;refine av hok 9 ?_;refine g_ 10 fun K hK => ?_;go_simp;refine hcall2.out.mono ?_;rintro e w5 ⟨B, rfl, hB, hb5⟩;dsimp only;have hz5 := hzd.below hb5.out;have hd5 := hd.trans (hb5.out.mono hd.size);obtain ⟨hbX, -⟩ := hz5.box 1 rfl;obtain ⟨hbY, -⟩ := hz5.box 0 rfl;refine hK _ _ ⟨⟨bc_ hbX 4, bc_ hbY 4⟩, hcX.out _ hd5, hcY.out _ hd5⟩ ?_;clear hK K;refine kw ?_;replace hz5 := hi_ hz5;cases B with
        | false =>
         have hn := hi_ (hbad.out (fun h => Bool.noConfusion (hB.out.2 h)));have hbF := hi_ hz5.out.bel;clear hok hS0 c0 c1 c2 c3 c4 d0 d1 d2 d3 d4 hS hcall hcall2 hzd hbX hbY hb5 hB hstep hbad heq hz5;go_wp2_with fail;go_ret;first | exact ⟨false, rfl, hi_ ⟨nofun, fun h => absurd h hn.out⟩, hbF⟩ | (rw [← hMB]; exact ⟨false, rfl, hi_ ⟨nofun, fun h => absurd h hn.out⟩, hbF⟩)
        | true =>
         have hs := hi_ (hstep.out (hB.out.1 rfl));clear hok hS0 c0 c1 c2 c3 c4 d0 d1 d2 d3 d4 hS hcall hcall2 hzd hbX hbY hb5 hB hstep hbad heq;go_wp2_with fail;go_roundw;case rel => exact ⟨j + 1, by go_num, by omega, hs, hz5⟩
         case measure => simp [intOf] <;> omega
       obtain rfl : j = rows.length := (by omega);have hbF := hi_ hz.out.bel;have hyes : Hid Pp := hi_ (by
        rw [hP.out];congr 1;refine List.ext_getElem (by rw [az, az, hlen.out]) (fun k h1 h2 => ?_);rw [az] at h1 h2;rw [ou, ou];exact heq.out k h1 h2 h1)
       go_wp2_with fail;go_ret;first | exact ⟨true, rfl, hi_ ⟨fun _ => hyes.out, fun _ => rfl⟩, hbF⟩ | (rw [← hMB]; exact ⟨true, rfl, hi_ ⟨fun _ => hyes.out, fun _ => rfl⟩, hbF⟩)
end
section
open Go.RowKit
end
section
open Go.RowKit
attribute [local go_sem ↓] Go.wp_at_zero Go.wp_at_succ
end
section
open Go.RowKit
attribute [local go_sem ↓] Go.wp_at_zero Go.wp_at_succ
end
section
open Go.RowKit
attribute [local go_sem ↓] Go.wp_at_zero Go.wp_at_succ
theorem pq.rows {W : World} {m : Ml} {ab ah as_ : Option Addr} {nb cb nv nh ch ns cs nse sw : Nat} (h : pq W (.agg #[.slice ab nb cb, .int .u64 nv, .slice ah nh ch, .slice as_ ns cs, .int .u64 nse, .int .u64 sw]) m) : F_ W (.slice ah nh ch) m.homes ∧ z_ W (.slice as_ ns cs) m.seats := by
 obtain ⟨vb, vh, vs, bs, e, hbs, hib, hih, his⟩ := h;unfold yg at e;have e1 := jk (fun v => match v with | .agg a => (a[2]?, a[3]?) | _ => (none, none)) e;simp at e1;rw [e1.1, e1.2];exact ⟨hih, his⟩
theorem gg_ {W : World} {v : Value} {l : List Hm} (h : F_ W v l) {j : Nat} (hj : j < l.length) : ∃ b bo cap, v = .slice (some ⟨b, bo, none⟩) l.length cap ∧ ∀ W', Below W.heap.size W W' → W'.cell? ⟨b, bo + j * 3, none⟩ = some (.int .i64 l[j].node) ∧ W'.cell? ⟨b, bo + j * 3 + 1, none⟩ = some (.int .u64 l[j].life) ∧ W'.cell? ⟨b, bo + j * 3 + 2, none⟩ = some (.int .u64 l[j].ek) := by
 obtain ⟨b, bo, cap, hv, -, hbl, hc⟩ := hmT.ow h hj;refine ⟨b, bo, cap, hv, fun W' hb => ?_⟩;have hk : ∀ r u, (hmT.enc l[j])[r]? = some u → W'.cell? ⟨b, bo + j * 3 + r, none⟩ = some u := fun r u hu => by
  rw [qa];exact (hb.cell (p := ⟨b, bo + (j * 3 + r), none⟩) hbl).trans (hc r u hu)
 exact ⟨hk 0 _ rfl, hk 1 _ rfl, hk 2 _ rfl⟩
theorem ge_ {W : World} {v : Value} {l : List St} (h : z_ W v l) {j : Nat} (hj : j < l.length) : ∃ b bo cap, v = .slice (some ⟨b, bo, none⟩) l.length cap ∧ ∀ W', Below W.heap.size W W' → W'.cell? ⟨b, bo + j * 5, none⟩ = some (.int .u64 l[j].session) ∧ W'.cell? ⟨b, bo + j * 5 + 1, none⟩ = some (.int .u64 l[j].last) ∧ W'.cell? ⟨b, bo + j * 5 + 2, none⟩ = some (.int .i64 l[j].node) ∧ W'.cell? ⟨b, bo + j * 5 + 3, none⟩ = some (.int .u64 l[j].life) ∧ W'.cell? ⟨b, bo + j * 5 + 4, none⟩ = some (.int .u64 l[j].ek) := by
 obtain ⟨b, bo, cap, hv, -, hbl, hc⟩ := stT.ow h hj;refine ⟨b, bo, cap, hv, fun W' hb => ?_⟩;have hk : ∀ r u, (stT.enc l[j])[r]? = some u → W'.cell? ⟨b, bo + j * 5 + r, none⟩ = some u := fun r u hu => by
  rw [qa];exact (hb.cell (p := ⟨b, bo + (j * 5 + r), none⟩) hbl).trans (hc r u hu)
 exact ⟨hk 0 _ rfl, hk 1 _ rfl, hk 2 _ rfl, hk 3 _ rfl, hk 4 _ rfl⟩
end
section
open Go.RowKit
attribute [local go_sem ↓] Go.wp_at_zero Go.wp_at_succ
theorem gh_ {W : World} {v : Value} {l : List BxV} (h : zo W v l) {j : Nat} (hj : j < l.length) : ∃ b bo cap, v = .slice (some ⟨b, bo, none⟩) l.length cap ∧ l.length ≤ cap ∧ ∀ W', Below W.heap.size W W' → W'.cell? ⟨b, bo + j * 5, none⟩ = some (.string l[j].name) ∧ W'.cell? ⟨b, bo + j * 5 + 1, none⟩ = some (.int .u64 l[j].ag) ∧ W'.cell? ⟨b, bo + j * 5 + 2, none⟩ = some (.int .u64 l[j].next) ∧ W'.cell? ⟨b, bo + j * 5 + 3, none⟩ = some (.int .u64 l[j].high) ∧ W'.cell? ⟨b, bo + j * 5 + 4, none⟩ = some (.slice l[j].a l[j].rows.length l[j].c) := by
 obtain ⟨b, bo, cap, hv, hcap, hbl, hc⟩ := bxT.ow h.1 hj;refine ⟨b, bo, cap, hv, hcap, fun W' hb => ?_⟩;have hk : ∀ r u, (bxT.enc l[j])[r]? = some u → W'.cell? ⟨b, bo + j * 5 + r, none⟩ = some u := fun r u hu => by
  rw [qa];exact (hb.cell (p := ⟨b, bo + (j * 5 + r), none⟩) hbl).trans (hc r u hu)
 exact ⟨hk 0 _ rfl, hk 1 _ rfl, hk 2 _ rfl, hk 3 _ rfl, hk 4 _ rfl⟩
end
end Go.Proofs.YtdobbfjmlnlieaaGreat
