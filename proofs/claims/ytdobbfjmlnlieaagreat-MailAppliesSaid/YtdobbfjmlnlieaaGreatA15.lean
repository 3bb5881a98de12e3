/- The document's answer which states are right: walked; What is light is small enough: plain; hash, begun: walked; begun: walked; alive's states: plain; A region that draws its order, where one operation of the he; SameLetter: walked; SameBox, asked about two mailboxes that are the same: walked; SameN -/
import Derived.Test.YtdobbfjmlnlieaaGreatA01
import Derived.Test.YtdobbfjmlnlieaaGreatA14
import Derived.Test.YtdobbfjmlnlieaaGreatA11
namespace Go.Proofs.YtdobbfjmlnlieaaGreat
set_option linter.unusedSimpArgs false
namespace Tryz
end Tryz
open Go.Proofs.Tryz Go.Proofs.YtdobbfjmlnlieaaGreat.Tryz
section
open Go.RowKit
attribute [local go_sem ↓] Go.wp_at_zero Go.wp_at_succ
def w_ (b : Bx) : Bool := b.name.data.toList == Ag
structure BUp (m : Ml) (i cnt : Nat) : Prop where
 bx : ∀ b ∈ m.boxes.take i, Im b m.nv
 nm : (m.boxes.take i).Pairwise (fun x y => mh x y = true)
 vl : (m.boxes.take i).Pairwise (fun x y => x.ag ≠ y.ag)
 cn : cnt = ((m.boxes.take i).filter w_).length
theorem BUp.step {m : Ml} {i cnt : Nat} (h : BUp m i cnt) (hi : i < m.boxes.length) (hb : Im m.boxes[i] m.nv) (hk : ∀ k (hk : k < m.boxes.length), k < i → mh m.boxes[k] m.boxes[i] = true ∧ m.boxes[k].ag ≠ m.boxes[i].ag) : BUp m (i + 1) (cnt + if w_ m.boxes[i] then 1 else 0) := by
 have e := ak hi;refine ⟨fun x hx => ?_, ?_, ?_, ?_⟩
 ·rw [e] at hx;rcases fe.1 hx with hx | hx
  ·exact h.bx x hx
  rw [dx.1 hx]; exact hb
 ·rw [e];refine j3.2 ⟨h.nm, by simp, fun x hx y hy => ?_⟩;rw [dx.1 hy];obtain ⟨k, hk', rfl⟩ := gu.1 hx;rw [bf] at hk';rw [Ce];exact (hk k (by omega) (by omega)).1
 ·rw [e];refine j3.2 ⟨h.vl, by simp, fun x hx y hy => ?_⟩;rw [dx.1 hy];obtain ⟨k, hk', rfl⟩ := gu.1 hx;rw [bf] at hk';rw [Ce];exact (hk k (by omega) (by omega)).2
 rw [e, kv, bz, ← h.cn];congr 1;cases hb : w_ m.boxes[i] <;> simp [hb]
theorem Rh {l : List Bx} (hp : l.Pairwise (fun x y => mh x y = true)) : (l.filter w_).length = 1 ↔ ∃ b ∈ l, b.name.data.toList = Ag := by
 constructor
 ·intro h;have : l.filter w_ ≠ [] := fun e => by rw [e] at h; cases h
  obtain ⟨b, hb⟩ := List.exists_mem_of_ne_nil _ this;have := ui.1 hb;exact ⟨b, this.1, by simpa [w_] using this.2⟩
 rintro ⟨b, hb, he⟩;have hf : b ∈ l.filter w_ := ui.2 ⟨hb, by simp [w_, he]⟩;have hpf := hp.sublist (Df (p := w_));cases hc : l.filter w_ with
 | nil => rw [hc] at hf; cases hf
 | cons x r =>
  cases r with
  | nil => rfl
  | cons y r =>
   rw [hc] at hpf;have h1 := (jg.1 hpf).1 y (by simp);have hx : w_ x = true := (ui.1 (show x ∈ l.filter w_ by rw [hc]; simp)).2;have hy : w_ y = true := (ui.1 (show y ∈ l.filter w_ by rw [hc]; simp)).2;unfold w_ at hx hy;unfold mh at h1;rw [eq_of_beq hx, eq_of_beq hy, qm.irr] at h1;cases h1
structure ex_ (m : Ml) : Prop where
 sz : Ik m
 nm : ∀ b ∈ m.boxes, b.name.size ≤ maxLen
 fs : ∀ b ∈ m.boxes, ∀ x ∈ b.letters, Eh x.flags
set_option maxRecDepth 100000 in
set_option maxHeartbeats 16000000 in
theorem Qm {W : World} {m : Ml} (v : Value) (hin : pq W v m) (hsz : ex_ m) :
  Calls prog 33 #[v] W (Jh (jq m) W) := by
 have hin0 := hi_ (fun (w' : World) (h : Below W.heap.size W w') => hin.below h);obtain ⟨vb, vh, vs, bs, rfl, hbs, hib, hih, his⟩ := hin;have hib0 : Hid (∀ w', Below W.heap.size W w' → zo w' vb bs) := hi_ (fun w' h => hib.below h);obtain ⟨ab, cb, rfl, -⟩ := hib.1;obtain ⟨ah, ch, rfl, -⟩ := hih;obtain ⟨as_, cs, rfl, -⟩ := his;have hlb := hi_ (show bs.length = m.boxes.length by rw [← hbs, az]);replace hbs := hi_ hbs;have hz1 := (ny W).dz [.slice ab bs.length cb, .int .u64 m.nv, .slice ah m.homes.length ch, .slice as_ m.seats.length cs, .int .u64 m.ns, .int .u64 m.a_].toArray 27;generalize hMB : W.heap.size = MB at hz1;generalize hWa : (W.alloc (.cells [.slice ab bs.length cb, .int .u64 m.nv, .slice ah m.homes.length ch, .slice as_ m.seats.length cs, .int .u64 m.ns, .int .u64 m.a_].toArray 27)) = Wa at hz1;obtain ⟨ns2, hns2⟩ : ∃ ns2 : Nat, ns2 = m.ns := ⟨_, rfl⟩;obtain ⟨hbM, -⟩ := hz1.box 0 rfl;have x0 : Wa.cell? ⟨MB, 0, none⟩ = some (.slice ab bs.length cb) := bc_ hbM 0;have x1 : Wa.cell? ⟨MB, 1, none⟩ = some (.int .u64 m.nv) := bc_ hbM 1;have x2 : Wa.cell? ⟨MB, 2, none⟩ = some (.slice ah m.homes.length ch) := bc_ hbM 2;have x3 : Wa.cell? ⟨MB, 3, none⟩ = some (.slice as_ m.seats.length cs) := bc_ hbM 3;have x4 : Wa.cell? ⟨MB, 4, none⟩ = some (.int .u64 ns2) := by rw [hns2]; exact bc_ hbM 4
 have x5 : Wa.cell? ⟨MB, 5, none⟩ = some (.int .u64 m.a_) := bc_ hbM 5;replace hns2 := hi_ hns2;replace hz1 := hi_ hz1;replace hsz := hi_ hsz;clear hib hbM;unfold yg;generalize hP : jq m = Pp;replace hP := hi_ hP;go_enter func33, ntmps33;go_upto_region 1 with fail;clear hMB hWa;go_cut [35] (fun v35 wx => v35 = .bool ((decide ((8 : Int) < (bs.length : Int))) || (decide ((4294967296 : Int) < (m.nv : Int))) || (((ns2 : Int) == 0)) || (decide ((4611686018427387904 : Int) < (ns2 : Int))) || (decide ((9223372036854775807 : Int) < (m.a_ : Int))) || (decide ((16 : Int) < (m.seats.length : Int)))) ∧ wx = Wa);case first =>
  cases l1 : decide ((8 : Int) < (bs.length : Int)) with
  | true =>
   have l1' := dm l1;replace l1 := hi_ l1;go_wp2_with fail;go_meet;case rel => exact ⟨by simp only [l1.out, ic, iw, ig, je], rfl⟩
  | false =>
   cases l2 : decide ((4294967296 : Int) < (m.nv : Int)) with
   | true =>
    have l2' := dm l2;replace l2 := hi_ l2;go_wp2_with fail;go_meet;case rel => exact ⟨by simp only [l1, l2.out, ic, iw, ig, je], rfl⟩
   | false =>
    cases l3 : ((ns2 : Int) == 0) with
    | true =>
     go_wp2_with fail;go_meet;case rel => exact ⟨by simp only [l1, l2, l3, ic, iw, ig, je], rfl⟩
    | false =>
     cases l4 : decide ((4611686018427387904 : Int) < (ns2 : Int)) with
     | true =>
      have l4' := dm l4;replace l4 := hi_ l4;go_wp2_with fail;go_meet;case rel => exact ⟨by simp only [l1, l2, l3, l4.out, ic, iw, ig, je], rfl⟩
     | false =>
      cases l5 : decide ((9223372036854775807 : Int) < (m.a_ : Int)) with
      | true =>
       have l5' := dm l5;replace l5 := hi_ l5;go_wp2_with fail;go_meet;case rel => exact ⟨by simp only [l1, l2, l3, l4, l5.out, ic, iw, ig, je], rfl⟩
      | false =>
       cases l6 : decide ((16 : Int) < (m.seats.length : Int)) with
       | true =>
        have l6' := dm l6;replace l6 := hi_ l6;go_wp2_with fail;go_meet;case rel => exact ⟨by simp only [l1, l2, l3, l4, l5, l6.out, ic, iw, ig, je], rfl⟩
       | false =>
        go_wp2_with fail;go_meet;case rel => exact ⟨by simp only [l1, l2, l3, l4, l5, l6, ic, iw, ig, je], rfl⟩
 case rest =>
 obtain ⟨rfl, rfl⟩ := hcut;obtain ⟨B, hB⟩ : ∃ B, ((decide ((8 : Int) < (bs.length : Int))) || (decide ((4294967296 : Int) < (m.nv : Int))) || (((ns2 : Int) == 0)) || (decide ((4611686018427387904 : Int) < (ns2 : Int))) || (decide ((9223372036854775807 : Int) < (m.a_ : Int))) || (decide ((16 : Int) < (m.seats.length : Int)))) = B := ⟨_, rfl⟩;rw [hB];clear x0 x1 x2 x3 x4 x5;cases B with
 | true =>
  have hno : Hid (false = true ↔ Pp) := hi_ (by
   rw [← hP.out];refine Ai (fun h => by cases h) (fun h => ?_);have e1 := hns2.out;have e2 := hlb.out;have l1 : decide ((8 : Int) < (bs.length : Int)) = false := aj (by have := h.lb; omega);have l2 : decide ((4294967296 : Int) < (m.nv : Int)) = false := aj (by have := h.nv; omega);have l3 : ((ns2 : Int) == 0) = false := cz.2 (by have := h.ns1; omega);have l4 : decide ((4611686018427387904 : Int) < (ns2 : Int)) = false := aj (by have := h.ns2; omega);have l5 : decide ((9223372036854775807 : Int) < (m.a_ : Int)) = false := aj (by have := h.sw; omega);have l6 : decide ((16 : Int) < (m.seats.length : Int)) = false := aj (by have := h.ls; omega);rw [l1, l2, l3, l4, l5, l6] at hB;exact absurd hB (by simp))
  have hbF := hi_ hz1.out.bel;clear hB hz1;go_wp2_with fail;go_ret;exact ⟨false, rfl, hno, hbF⟩
 | false =>
  simp only [Cs] at hB;obtain ⟨⟨⟨⟨⟨l1, l2⟩, l3⟩, l4⟩, l5⟩, l6⟩ := hB;have hl8 : bs.length ≤ 8 := by have := f_ l1; omega
  have hfin : Hid ((∀ b ∈ m.boxes, Im b m.nv) → m.boxes.Pairwise (fun x y => mh x y = true) → m.boxes.Pairwise (fun x y => x.ag ≠ y.ag) → (∃ b ∈ m.boxes, b.name.data.toList = Ag) → zm m → jq m) := hi_ (fun h1 h2 h3 h4 h5 => by
   have e1 := hns2.out;have e2 := hlb.out;have l1' := f_ l1;have l2' := f_ l2;have l3' := cz.1 l3;have l4' := f_ l4;have l5' := f_ l5;have l6' := f_ l6;exact ⟨by omega, by omega, by omega, by omega, by omega, by omega, h1, h2, h3, h4, h5⟩)
  clear l1 l2 l3 l4 l5 l6;go_wp2_with fail;go_loopw [3, 4] (fun v3 v4 wr => ∃ i cnt : Nat, v4 = .int .i64 i ∧ v3 = .int .i64 cnt ∧ i ≤ bs.length ∧ cnt ≤ i ∧ Hid (BUp m i cnt) ∧ Hid (Zoo W wr [df MB [.slice ab bs.length cb, .int .u64 m.nv, .slice ah m.homes.length ch, .slice as_ m.seats.length cs, .int .u64 m.ns, .int .u64 m.a_].toArray 27])) (fun _ v4 _ => bs.length - (intOf v4).toNat);case atStart => exact ⟨0, 0, rfl, rfl, dw _, dw _, hi_ ⟨fun x hx => by simp at hx, by simp, by simp, by simp⟩, hz1⟩
  case round =>
   clear hz1;obtain ⟨i, cnt, rfl, rfl, hi, hcnt, hup, hz⟩ := hrel;generalize wr = wo at *;obtain ⟨hbM, -⟩ := hz.out.box 0 rfl;obtain ⟨x0, x1, x2, x3, x4, x5⟩ := bx6 hbM;by_cases hlt : i < bs.length
   ·have hin := hib0.out wo hz.out.bel;obtain ⟨b, bo, cap, hv, -, hblt, hcells⟩ := bxT.ow hin.1 hlt;injection hv with hv1 hv2 hv3;subst hv1 hv3;have him : i < m.boxes.length := (by have := hlb.out; omega);have hmx : m.boxes[i] = bs[i].b := by
     have h1 := Ti hbs.out hlt;rw [ay him] at h1;exact jc h1
    have hxm : bs[i].b ∈ m.boxes := (by rw [← hmx]; exact bg him);have hbc : ∀ w', Below W.heap.size W w' → ∀ j (hj : j < bs.length), ∀ r u, (rq bs[j])[r]? = some u → w'.cell? ⟨b, bo + (j * 5 + r), none⟩ = some u := fun w' hw j hj r u hu => by
     obtain ⟨b', bo', cap', hv', -, -, hc'⟩ := bxT.ow (hib0.out w' hw).1 hj;injection hv' with g1 g2 g3;injection g1 with g1;injection g1 with g1 g1b;subst g1 g1b;exact hc' r u hu
    have hneed : jq m → Im bs[i].b m.nv ∧ ∀ k (hk : k < m.boxes.length), k < i → mh m.boxes[k] m.boxes[i] = true ∧ m.boxes[k].ag ≠ m.boxes[i].ag := fun h => ⟨h.boxes _ hxm, fun k hk hki => ⟨gm.1 h.names k i hk him hki, gm.1 h.vals k i hk him hki⟩⟩;have hstep := fun h1 h2 => hup.out.step him h1 h2;rw [hmx] at hneed hstep;have hbox := Ur (W := wo.drew) bs[i] m.nv ((hib0.out wo.drew (hz.out.drew).bel).2 _ (bg hlt)) (hsz.out.nm _ hxm) (fun z hz => hsz.out.sz.flags _ hxm z.x (jo (f := LtV.x) hz)) (fun z hz => hsz.out.fs _ hxm z.x (jo (f := LtV.x) hz));have hci := fun w' hw => hbc w' hw i hlt;obtain ⟨x, hx⟩ : ∃ x, bs[i] = x := ⟨_, rfl⟩;rw [hx] at hneed hstep hbox hci;replace hbox : Hid (Calls prog 73 #[.agg #[.string x.name, .int .u64 x.ag, .int .u64 x.next, .int .u64 x.high, .slice x.a x.rows.length x.c], .int .u64 m.nv] wo.drew (Jh (Im x.b m.nv) wo.drew)) := hi_ hbox;have hcx : Hid (∀ w', Below W.heap.size W w' → w'.cell? ⟨b, bo + i * 5, none⟩ = some (.string x.name) ∧ w'.cell? ⟨b, bo + i * 5 + 1, none⟩ = some (.int .u64 x.ag) ∧ w'.cell? ⟨b, bo + i * 5 + 2, none⟩ = some (.int .u64 x.next) ∧ w'.cell? ⟨b, bo + i * 5 + 3, none⟩ = some (.int .u64 x.high) ∧ w'.cell? ⟨b, bo + i * 5 + 4, none⟩ = some (.slice x.a x.rows.length x.c)) := hi_ (fun w' hw => ⟨hci w' hw 0 _ rfl, hci w' hw 1 _ rfl, hci w' hw 2 _ rfl, hci w' hw 3 _ rfl, hci w' hw 4 _ rfl⟩);have hi0 : (0 : Int) ≤ (i : Int) := (by omega);have hi1 : (i : Int) < (bs.length : Int) := (by omega);replace hneed := hi_ hneed;replace hstep := hi_ hstep;replace hbc := hi_ hbc;replace hmx := hi_ hmx;replace hx := hi_ hx;clear hcells hin hci hxm hup hbM;go_wp2_with fail;clear x0 x1 x2 x3 x4 x5;have hzd := hz.out.drew;obtain ⟨c0, c1, c2, c3, c4⟩ := hcx.out _ hzd.bel;obtain ⟨hbM, -⟩ := hzd.box 0 rfl;have x0 : wo.drew.cell? ⟨MB, 0, none⟩ = some (.slice (some ⟨b, bo, none⟩) bs.length cb) := bc_ hbM 0;have x1 : wo.drew.cell? ⟨MB, 1, none⟩ = some (.int .u64 m.nv) := bc_ hbM 1;go_cut [51] (fun v51 wx => ∃ B, v51 = .bool (!B) ∧ Hid (B = true ↔ Im x.b m.nv) ∧ Hid (Zoo W wx [df MB [.slice (some ⟨b, bo, none⟩) bs.length cb, .int .u64 m.nv, .slice ah m.homes.length ch, .slice as_ m.seats.length cs, .int .u64 m.ns, .int .u64 m.a_].toArray 27]));case first =>
     refine wr_ (fun w' => w'.cell? ⟨MB, 0, none⟩ = some (.slice (some ⟨b, bo, none⟩) bs.length cb) ∧ w'.cell? ⟨MB, 1, none⟩ = some (.int .u64 m.nv) ∧ w'.cell? ⟨b, bo + i * 5, none⟩ = some (.string x.name) ∧ w'.cell? ⟨b, bo + i * 5 + 1, none⟩ = some (.int .u64 x.ag) ∧ w'.cell? ⟨b, bo + i * 5 + 2, none⟩ = some (.int .u64 x.next) ∧ w'.cell? ⟨b, bo + i * 5 + 3, none⟩ = some (.int .u64 x.high) ∧ w'.cell? ⟨b, bo + i * 5 + 4, none⟩ = some (.slice x.a x.rows.length x.c)) 8 1 ⟨x0, x1, c0, c1, c2, c3, c4⟩ fun hok hS0 => ?_;generalize wo.drew = Wd at *;refine av hok 0 ?_;refine av hok 1 ?_;refine av hok 2 ?_;refine av hok 3 ?_;refine av hok 4 ?_;refine av hok 5 ?_;refine av hok 6 ?_;refine g_ 7 fun K hK => ?_;go_simp;refine hbox.out.mono ?_;rintro e w5 ⟨B, rfl, hB, hb5⟩;dsimp only;have hz5 := hzd.below hb5.out;obtain ⟨hbM, -⟩ := hz5.box 0 rfl;refine hK _ _ ⟨bc_ hbM 0, bc_ hbM 1, hcx.out _ hz5.bel⟩ ?_;clear hK K;refine kw ?_;replace hz5 := hi_ hz5;clear hok hS0 c0 c1 c2 c3 c4 x0 x1 hbox hzd hbM hb5;go_wp2_with fail;go_meet;case rel => exact ⟨B, rfl, hB, hz5⟩
    case rest =>
    clear c0 c1 c2 c3 c4 x0 x1 hbox hzd hz hbM;obtain ⟨B, rfl, hB, hz⟩ := hcut;cases B with
    | false =>
     have hno : Hid (false = true ↔ Pp) := hi_ (by
      rw [← hP.out];exact Ai (fun h => by cases h) (fun h => hB.out.2 (hneed.out h).1))
     have hbF := hi_ hz.out.bel;clear hneed hstep hbc hcx hB;go_wp2_with fail;go_ret;exact ⟨false, rfl, hno, hbF⟩
    | true =>
     have hBx := hi_ (hB.out.1 rfl);clear hB;generalize wc = wq at *;go_wp2_with fail;go_loopw [5] (fun v5 wr => ∃ k : Nat, v5 = .int .i64 k ∧ k ≤ i ∧ Hid (∀ k' (h : k' < m.boxes.length), k' < k → mh m.boxes[k'] x.b = true ∧ m.boxes[k'].ag ≠ x.b.ag) ∧ Hid (Zoo W wr [df MB [.slice (some ⟨b, bo, none⟩) bs.length cb, .int .u64 m.nv, .slice ah m.homes.length ch, .slice as_ m.seats.length cs, .int .u64 m.ns, .int .u64 m.a_].toArray 27])) (fun v5 _ => i - (intOf v5).toNat);case atStart => exact ⟨0, rfl, dw _, hi_ (fun k' h hk => by omega), hz⟩
     case round =>
      clear hz;obtain ⟨k, rfl, hk, hno, hz⟩ := hrel;obtain ⟨hbM, -⟩ := hz.out.box 0 rfl;have x0 : wr.cell? ⟨MB, 0, none⟩ = some (.slice (some ⟨b, bo, none⟩) bs.length cb) := bc_ hbM 0;obtain ⟨c0, c1, -, -, -⟩ := hcx.out wr hz.out.bel;clear hbM;by_cases hki : k < i
      ·have hkl : k < bs.length := (by omega);have hkm : k < m.boxes.length := (by omega);have hmk : m.boxes[k] = bs[k].b := by
        have h1 := Ti hbs.out hkl;rw [ay hkm] at h1;exact jc h1
       have d0 := hbc.out wr hz.out.bel k hkl 0 _ rfl;have d1 := hbc.out wr hz.out.bel k hkl 1 _ rfl;have hno2 : mh bs[k].b x.b = true ∧ bs[k].b.ag ≠ x.b.ag → ∀ k' (h : k' < m.boxes.length), k' < k + 1 → mh m.boxes[k'] x.b = true ∧ m.boxes[k'].ag ≠ x.b.ag := fun h k' hk' hkk => by
        by_cases e : k' = k
        ·subst e; rw [hmk]; exact h
        exact hno.out k' hk' (by omega)
       have hbad : ¬ (mh bs[k].b x.b = true ∧ bs[k].b.ag ≠ x.b.ag) → ¬ Pp := fun h hp => by
        rw [← hP.out] at hp;have := (hneed.out hp).2 k hkm hki;rw [hmk] at this;exact h this
       obtain ⟨z, hzz⟩ : ∃ z, bs[k] = z := ⟨_, rfl⟩;rw [hzz] at d0 d1 hno2 hbad;replace d0 : wr.cell? ⟨b, bo + k * 5, none⟩ = some (.string z.name) := d0;replace d1 : wr.cell? ⟨b, bo + k * 5 + 1, none⟩ = some (.int .u64 z.ag) := d1;have hk0 : (0 : Int) ≤ (k : Int) := (by omega);have hk1 : (k : Int) < (i : Int) := (by omega);have hk2 : (k : Int) < (bs.length : Int) := (by omega);have hlt2 : Hid (Op.bytesLess z.name.toList x.name.toList = mh z.b x.b) := hi_ (by rw [bytesLess_eq, ib, ib]; rfl);replace hno2 := hi_ hno2;replace hbad := hi_ hbad;clear hmk hzz hno;cases c1x : Op.bytesLess z.name.toList x.name.toList with
       | false =>
        have hn := hi_ (hbad.out (fun h => by rw [← hlt2.out, c1x] at h; cases h.1));have hbF := hz.out.bel;clear hno2 hbad hlt2;go_wp2_with fail;go_quiet (fail);go_wp2_with fail;go_ret;exact ⟨false, rfl, hi_ (Ai (fun h => by cases h) (fun h => absurd h hn.out)), hi_ (qw hbF nq)⟩
       | true =>
        cases c2x : ((z.ag : Int) == (x.ag : Int)) with
        | true =>
         have hn := hi_ (hbad.out (fun h => h.2 (by have := eq_of_beq c2x; show z.ag = x.ag; omega)));have hbF := hz.out.bel;clear hno2 hbad hlt2;go_wp2_with fail;go_quiet (fail);go_wp2_with fail;go_ret;exact ⟨false, rfl, hi_ (Ai (fun h => by cases h) (fun h => absurd h hn.out)), hi_ (qw hbF nq)⟩
        | false =>
         have hn := hi_ (hno2.out ⟨by rw [← hlt2.out]; exact c1x, fun h => by rw [show z.ag = x.ag from h, beq_self_eq_true] at c2x; cases c2x⟩);clear hno2 hbad hlt2;go_wp2_with fail;go_quiet (fail);go_wp2_with fail;go_roundw;case rel => exact ⟨k + 1, by go_num, by omega, hn, hi_ (hz.out.below (qw (ae _ _) nq))⟩
         case measure => simp [intOf] <;> omega
      have hk1 : (i : Int) ≤ (k : Int) := (by omega);have hk2 : ¬ ((k : Int) < (i : Int)) := (by omega);have hup2 := hi_ (hstep.out hBx.out (fun k' hk' hki' => hno.out k' hk' (by omega)));have hib2 : Hid (w_ x.b = (x.name.toList == [73, 78, 66, 79, 88])) := hi_ (by unfold w_; rw [ib]; rfl);clear hno hstep hneed hbc;cases hb : (x.name.toList == [73, 78, 66, 79, 88]) with
      | true =>
       have hupF : Hid (BUp m (i + 1) (cnt + 1)) := hi_ (by have := hup2.out; rw [hib2.out, hb] at this; exact this);clear hup2 hib2;go_wp2_with fail;go_roundw;case rel => exact ⟨i + 1, cnt + 1, by go_num, by go_num, by omega, by omega, hupF, hz⟩
       case measure => simp [intOf] <;> omega
      | false =>
       have hupF : Hid (BUp m (i + 1) cnt) := hi_ (by have := hup2.out; rw [hib2.out, hb] at this; exact this);clear hup2 hib2;go_wp2_with fail;go_roundw;case rel => exact ⟨i + 1, cnt, by go_num, rfl, by omega, by omega, hupF, hz⟩
       case measure => simp [intOf] <;> omega
   have hi1 : (bs.length : Int) ≤ (i : Int) := (by omega);have hi2 : ¬ ((i : Int) < (bs.length : Int)) := (by omega);have hie : i = m.boxes.length := (by have := hlb.out; omega);have hseated : Hid (Calls prog 74 #[.agg #[.slice ab bs.length cb, .int .u64 m.nv, .slice ah m.homes.length ch, .slice as_ m.seats.length cs, .int .u64 m.ns, .int .u64 m.a_]] wo (Jh (zm m) wo)) := hi_ (Ql _ (hin0.out wo hz.out.bel) hsz.out.sz.homes hsz.out.sz.seats);have hall : Hid ((∀ b ∈ m.boxes, Im b m.nv) ∧ m.boxes.Pairwise (fun x y => mh x y = true) ∧ m.boxes.Pairwise (fun x y => x.ag ≠ y.ag) ∧ cnt = (m.boxes.filter w_).length) := hi_ (by
    obtain ⟨g1, g2, g3, g4⟩ := hup.out;rw [hie, gp] at g1 g2 g3 g4;exact ⟨g1, g2, g3, g4⟩)
   have hbF := hi_ hz.out.bel;clear hie hup hz hbM;by_cases hc : cnt = 1
   ·have hc' : ((cnt : Int) == 1) = true := beq_iff_eq.2 (by omega);replace hc := hi_ hc;go_wp2_with fail;refine hseated.out.mono ?_;rintro e w5 ⟨B, rfl, hB, hb5⟩;have hbG := hi_ (hbF.out.trans (hb5.out.mono hbF.out.size));have hyes : Hid (B = true ↔ Pp) := hi_ (by
     rw [← hP.out, hB.out];refine Ai (fun h => hfin.out hall.out.1 hall.out.2.1 hall.out.2.2.1 ((Rh hall.out.2.1).1 (by rw [← hall.out.2.2.2]; exact hc.out)) h) (fun h => h.seated))
    clear hB hb5 hseated hbF;go_wp2_with fail;go_ret;exact ⟨B, rfl, hyes, hbG⟩
   have hc' : ((cnt : Int) == 1) = false := cz.2 (by omega);have hno : Hid (false = true ↔ Pp) := hi_ (by
    rw [← hP.out];refine Ai (fun h => by cases h) (fun h => ?_);have := (Rh hall.out.2.1).2 h.inbox;rw [← hall.out.2.2.2] at this;exact absurd this hc)
   clear hc hseated;go_wp2_with fail;go_ret;exact ⟨false, rfl, hno, hbF⟩
end
section
open Go.RowKit
theorem Ea {α : Type} (f : α → Nat) {x : α} : ∀ {l : List α}, x ∈ l → f x ≤ (l.map f).sum
 | y :: r, h => by
  simp only [yx, List.sum_cons];rcases d_.1 h with rfl | h
  ·omega
  have := Ea f h; omega
theorem Tm {n : Nat} (h : Ay n < 1048576) : n = Ay n := by unfold Ay at h ⊢; omega
theorem Gf {l : List (List UInt8)} (h : ym l < 9000) : l.length ≤ 200 ∧ Eh l := by
 unfold ym at h;split at h
 ·omega
 refine ⟨by omega, fun x hx => ?_⟩;have h1 := Ea Fe hx;have h2 : Fe x < 9000 := by omega
 unfold Fe at h2;have h3 := Tm (n := x.length) (by omega);have h4 : (mkB x).size = x.length := by simp [mkB, ByteArray.size]
 rw [h4];unfold maxLen;omega
theorem Ia {m : Ml} {l : List Rq} (h : Cm m l = true) : m.boxes.length ≤ 50 ∧ m.seats.length ≤ 100 ∧ m.homes.length ≤ 50 ∧ l.length ≤ 200 ∧ (∀ b ∈ m.boxes, b.letters.length ≤ 500) ∧ (∀ q ∈ l, q.h_.length ≤ 1000) ∧ (∀ b ∈ m.boxes, Gq b < 9000) ∧ (∀ q ∈ l, Iz q < 9000) := by
 unfold Cm at h;simp only [qd, decide_eq_true_eq, C_] at h;refine ⟨h.1.1.1.1.1.1, h.1.1.1.1.1.2, h.1.1.1.1.2, h.1.1.1.2, h.1.1.2, h.1.2, fun b hb => ?_, fun q hq => ?_⟩
 ·have := Ea Gq hb; have := h.2; omega
 have := Ea Iz hq; have := h.2; omega
theorem ar_ {m : Ml} {l : List Rq} (h : Cm m l = true) : ex_ m := by
 have hp := Ia h;have hl : ∀ b ∈ m.boxes, ∀ x ∈ b.letters, ym x.flags < 9000 := by
  intro b hb x hx;have h1 := hp.2.2.2.2.2.2.1 b hb;have h2 := Ea Jo hx;unfold Gq at h1;have h3 : Jo x < 9000 := by omega
  unfold Jo at h3;omega
 refine ⟨⟨by omega, by omega, by omega, fun b hb => ?_, fun b hb x hx => ?_⟩, fun b hb => ?_, fun b hb x hx => (Gf (hl b hb x hx)).2⟩
 ·have := hp.2.2.2.2.1 b hb; omega
 ·have := (Gf (hl b hb x hx)).1; omega
 have h1 := hp.2.2.2.2.2.2.1 b hb;unfold Gq at h1;have h3 := Tm (n := b.name.size) (by omega);unfold maxLen;omega
theorem dg_ {m : Ml} {l : List Rq} (h : Cm m l = true) : ∀ q ∈ l, Qy q := by
 have hp := Ia h;intro q hq;have h1 := hp.2.2.2.2.2.2.2 q hq;have h2 := hp.2.2.2.2.2.1 q hq;unfold Iz at h1;have h3 := Gf (l := q.flags) (by omega);have h4 := Tm (n := q.box.size) (by omega);exact ⟨⟨by omega, h3.2, by omega⟩, by unfold maxLen; omega⟩
end
section
open Go.RowKit
attribute [local go_sem ↓] Go.wp_at_zero Go.wp_at_succ
def M_ (c : Nat) : List UInt8 := UInt8.ofNat c :: List.replicate 31 0
theorem fp_ (w : World) : (Instr.makeSlice 99 (.int .i64 32) (.int .i64 32)).run prog w = .ok (.slice (some ⟨w.heap.size, 0, none⟩) 32 32) (w.alloc (.cells #[.int .u8 0, .int .u8 0, .int .u8 0, .int .u8 0, .int .u8 0, .int .u8 0, .int .u8 0, .int .u8 0, .int .u8 0, .int .u8 0, .int .u8 0, .int .u8 0, .int .u8 0, .int .u8 0, .int .u8 0, .int .u8 0, .int .u8 0, .int .u8 0, .int .u8 0, .int .u8 0, .int .u8 0, .int .u8 0, .int .u8 0, .int .u8 0, .int .u8 0, .int .u8 0, .int .u8 0, .int .u8 0, .int .u8 0, .int .u8 0, .int .u8 0, .int .u8 0] 5)) := by kernel_rfl
theorem dp_ : (#[.int .u8 1, .int .u8 0, .int .u8 0, .int .u8 0, .int .u8 0, .int .u8 0, .int .u8 0, .int .u8 0, .int .u8 0, .int .u8 0, .int .u8 0, .int .u8 0, .int .u8 0, .int .u8 0, .int .u8 0, .int .u8 0, .int .u8 0, .int .u8 0, .int .u8 0, .int .u8 0, .int .u8 0, .int .u8 0, .int .u8 0, .int .u8 0, .int .u8 0, .int .u8 0, .int .u8 0, .int .u8 0, .int .u8 0, .int .u8 0, .int .u8 0, .int .u8 0] : Array Value) = ((M_ 1).map (fun b => Value.int .u8 (b.toNat : Int))).toArray := rfl
theorem bm_ (w : World) : (convert 99 9 (.slice (some ⟨w.heap.size, 0, none⟩) 32 32)).run prog (w.alloc (.cells #[.int .u8 1, .int .u8 0, .int .u8 0, .int .u8 0, .int .u8 0, .int .u8 0, .int .u8 0, .int .u8 0, .int .u8 0, .int .u8 0, .int .u8 0, .int .u8 0, .int .u8 0, .int .u8 0, .int .u8 0, .int .u8 0, .int .u8 0, .int .u8 0, .int .u8 0, .int .u8 0, .int .u8 0, .int .u8 0, .int .u8 0, .int .u8 0, .int .u8 0, .int .u8 0, .int .u8 0, .int .u8 0, .int .u8 0, .int .u8 0, .int .u8 0, .int .u8 0] 5)) = .ok (.string (mkB (M_ 1))) (w.alloc (.cells #[.int .u8 1, .int .u8 0, .int .u8 0, .int .u8 0, .int .u8 0, .int .u8 0, .int .u8 0, .int .u8 0, .int .u8 0, .int .u8 0, .int .u8 0, .int .u8 0, .int .u8 0, .int .u8 0, .int .u8 0, .int .u8 0, .int .u8 0, .int .u8 0, .int .u8 0, .int .u8 0, .int .u8 0, .int .u8 0, .int .u8 0, .int .u8 0, .int .u8 0, .int .u8 0, .int .u8 0, .int .u8 0, .int .u8 0, .int .u8 0, .int .u8 0, .int .u8 0] 5)) := by
 have h := run_convert_bytes_back (P := prog) (w.alloc (.cells #[.int .u8 1, .int .u8 0, .int .u8 0, .int .u8 0, .int .u8 0, .int .u8 0, .int .u8 0, .int .u8 0, .int .u8 0, .int .u8 0, .int .u8 0, .int .u8 0, .int .u8 0, .int .u8 0, .int .u8 0, .int .u8 0, .int .u8 0, .int .u8 0, .int .u8 0, .int .u8 0, .int .u8 0, .int .u8 0, .int .u8 0, .int .u8 0, .int .u8 0, .int .u8 0, .int .u8 0, .int .u8 0, .int .u8 0, .int .u8 0, .int .u8 0, .int .u8 0] 5)) 99 9 5 ⟨w.heap.size, 0, none⟩ 32 (M_ 1) underlying99 underlying5 underlying9 (fun j hj => by
  rw [zx, di];simp only [World.cell?, heap_alloc_new, Option.isSome_none, Bool.false_eq_true, if_false];rw [dp_, ai, ji, ay hj];rfl)
 exact h
set_option maxRecDepth 100000 in
set_option maxHeartbeats 16000000 in
theorem Cv (W : World) : Calls prog 28 #[.int .u8 1] W fun e w' => e = .returned (.string (mkB (M_ 1))) ∧ Hid (Below W.heap.size W w') := by
 have hmk := fp_;have hcv := bm_ W;go_enter func28, ntmps28;go_wp2_with fail;go_ret;exact ⟨rfl, hi_ ((ae _ W).alloc (ax _) _)⟩
theorem pq.stay {W : World} {v : Value} {m : Ml} (h : pq W v m) : jw (fun _ => True) W fun x => pq x v m := by
 intro w' hw;have h2 : pq { W with heap := w'.heap } v m := h.below ⟨rfl, rfl, rfl, by
  rcases n_ W.heap.size with h0 | h0
  ·rw [h0]; exact dw _
  have e := ng (show W.heap.size - 1 < W.heap.size by omega);have := (bv.1 ((hw (W.heap.size - 1) trivial (by omega)).trans e)).1;show W.heap.size ≤ w'.heap.size;omega, fun k hk => hw k trivial hk⟩
 exact h2
theorem aj_ {w : World} {B : Nat} (h : w.heap[B]? = some (.cells (bxT.enc Mv).toArray 48 (0, 0))) : pq w (yg (.slice (some ⟨B, 0, none⟩) 1 1) 2 (.slice none 0 0) (.slice none 0 0) 1 0) Fq := by
 have hl : B < w.heap.size := (bv.1 h).1;have e : ({ w with heap := w.heap.extract 0 B } : World).heap.size = B := by simp; omega
 have h1 := gq_ { w with heap := w.heap.extract 0 B };rw [e] at h1;have e2 : (({ w with heap := w.heap.extract 0 B } : World).alloc (.cells (bxT.enc Mv).toArray 48)).heap.size = B + 1 := by simp; omega
 refine h1.below ⟨rfl, rfl, rfl, by rw [e2]; omega, fun k hk => ?_⟩;rw [e2] at hk;rcases oo k B with hk2 | hk2
 ·rw [((ae B ({ w with heap := w.heap.extract 0 B } : World)).alloc (by rw [e]; omega) _).block k hk2];show w.heap[k]? = (w.heap.extract 0 B)[k]?;rw [Qc];simp only [di];rw [dh (by omega)]
 obtain rfl : k = B := by omega
 rw [h];have := heap_alloc_new ({ w with heap := w.heap.extract 0 k } : World) (.cells (bxT.enc Mv).toArray 48);rw [e] at this;exact this.symm
def hq_ (W : World) (m : Ml) (e : Ending) (w' : World) : Prop := ∃ v, e = .returned v ∧ Hid (jw (fun k => W.heap.size ≤ k) w' fun x => pq x v m) ∧ Hid (Below W.heap.size W w')
set_option maxRecDepth 100000 in
set_option maxHeartbeats 4000000 in
theorem Uw (W : World) : Calls prog 29 #[] W (hq_ W Fq) := by
 have hz := ((ny W).dz #[.slice (some ⟨W.heap.size + 1, 0, none⟩) 1 1, .int .u64 2, .slice none 0 0, .slice none 0 0, .int .u64 1, .int .u64 0] 27).dz #[.string ⟨#[73, 78, 66, 79, 88]⟩, .int .u64 1, .int .u64 1, .int .u64 1, .slice none 0 0] 48;obtain ⟨hb, -⟩ := hz.box 1 rfl;obtain ⟨hb0, -⟩ := hz.box 0 rfl;rw [show (W.alloc (.cells #[.slice (some ⟨W.heap.size + 1, 0, none⟩) 1 1, .int .u64 2, .slice none 0 0, .slice none 0 0, .int .u64 1, .int .u64 0] 27)).heap.size = W.heap.size + 1 from by simp] at hb0;have h1 : Hid (jw (fun k => W.heap.size ≤ k) _ fun x => pq x (yg (.slice (some ⟨W.heap.size + 1, 0, none⟩) 1 1) 2 (.slice none 0 0) (.slice none 0 0) 1 0) Fq) := hi_ (fun w2 h2 => aj_ ((h2 (W.heap.size + 1) (by omega) (bv.1 hb0).1).trans hb0));have h2 := hi_ hz.bel;replace hb := hi_ hb;clear hz hb0;go_enter func29, ntmps29;go_wp2_with fail;refine bodyPost_ret (results_cell_row rfl _ _ _ 27 _ (0, 0) _ rfl hb.out underlying27 rfl rfl) rfl ?_;exact ⟨_, rfl, h1, h2⟩
end
section
open Go.RowKit
attribute [local go_sem ↓] Go.wp_at_zero Go.wp_at_succ
theorem pq.xu {W : World} {v : Value} {m : Ml} (h : pq W v m) : ∃ ab cb nb ah ch as_ cs, v = .agg #[.slice ab nb cb, .int .u64 m.nv, .slice ah m.homes.length ch, .slice as_ m.seats.length cs, .int .u64 m.ns, .int .u64 m.a_] := by
 obtain ⟨vb, vh, vs, bs, rfl, -, hib, hih, his⟩ := h;obtain ⟨ab, cb, rfl, -⟩ := hib.1;obtain ⟨ah, ch, rfl, -⟩ := hih;obtain ⟨as_, cs, rfl, -⟩ := his;exact ⟨_, _, _, _, _, _, _, rfl⟩
def P_ (W : World) (m : Ml) (v : Value) (e : Ending) (w' : World) : Prop := ∃ v', e = .returned v' ∧ Hid ((jq m ∧ v' = v) ∨ (¬ jq m ∧ jw (fun k => W.heap.size ≤ k) w' fun x => pq x v' Fq)) ∧ Hid (Below W.heap.size W w')
def Sa : List Value := [.slice none 0 0, .int .u64 0, .slice none 0 0, .slice none 0 0, .int .u64 0, .int .u64 0]
set_option maxRecDepth 100000 in
set_option maxHeartbeats 16000000 in
theorem bs_ {W : World} {m : Ml} (v : Value) (hin : pq W v m) (hsz : ex_ m) :
  Calls prog 13 #[v] W (P_ W m v) := by
 have hin0 := hi_ (fun (w' : World) (h : Below W.heap.size W w') => hin.below h);obtain ⟨ab, cb, nb, ah, ch, as_, cs, rfl⟩ := hin.xu;have hz1 := (ny W).dz [.slice ab nb cb, .int .u64 m.nv, .slice ah m.homes.length ch, .slice as_ m.seats.length cs, .int .u64 m.ns, .int .u64 m.a_].toArray 27;have hlt : W.heap.size < (W.alloc (.cells [.slice ab nb cb, .int .u64 m.nv, .slice ah m.homes.length ch, .slice as_ m.seats.length cs, .int .u64 m.ns, .int .u64 m.a_].toArray 27)).heap.size := by simp
 generalize hMB : W.heap.size = MB at hz1 hlt;generalize hWa : (W.alloc (.cells [.slice ab nb cb, .int .u64 m.nv, .slice ah m.homes.length ch, .slice as_ m.seats.length cs, .int .u64 m.ns, .int .u64 m.a_].toArray 27)) = Wa at hz1 hlt;have hz2 := hz1.dz Sa.toArray 27;have hlt2 : Wa.heap.size < (Wa.alloc (.cells Sa.toArray 27)).heap.size := by simp
 generalize hRB : Wa.heap.size = RB at hz2 hlt hlt2;generalize hWb : (Wa.alloc (.cells Sa.toArray 27)) = Wb at hz2 hlt2;unfold Sa at hWb hz2;replace hz1 := hi_ hz1;have hbel := hi_ hz2.bel;replace hz2 := hi_ hz2;replace hsz := hi_ hsz;clear hin;go_enter func13, ntmps13;go_upto_region 1 with fail;clear hWa hWb;obtain ⟨hbM, -⟩ := hz2.out.box 1 rfl;obtain ⟨x0, x1, x2, x3, x4, x5⟩ := bx6 hbM;clear hbM;have hr := hi_ (Qm _ (hin0.out Wb hbel.out) hsz.out);go_wp2_with (go_at_call 33; refine hr.out.mono ?_; rintro e w1 ⟨B, rfl, hB, hb1⟩; clear x0 x1 x2 x3 x4 x5; refine Ae ?_);have hz := hi_ (hz2.out.below hb1.out);obtain ⟨hbM, -⟩ := hz.out.box 1 rfl;obtain ⟨x0, x1, x2, x3, x4, x5⟩ := bx6 hbM;obtain ⟨hbR, -⟩ := hz.out.box 0 rfl;have z0 : w1.cell? ⟨RB, 0, none⟩ = some (.slice none 0 0) := bc_ hbR 0;have f0 : w1.frozen? ⟨RB, 0, none⟩ = false := bf_ hbR 0;have z1 : w1.cell? ⟨RB, 1, none⟩ = some (.int .u64 0) := bc_ hbR 1;have f1 : w1.frozen? ⟨RB, 1, none⟩ = false := bf_ hbR 1;have z2 : w1.cell? ⟨RB, 2, none⟩ = some (.slice none 0 0) := bc_ hbR 2;have f2 : w1.frozen? ⟨RB, 2, none⟩ = false := bf_ hbR 2;have z3 : w1.cell? ⟨RB, 3, none⟩ = some (.slice none 0 0) := bc_ hbR 3;have f3 : w1.frozen? ⟨RB, 3, none⟩ = false := bf_ hbR 3;have z4 : w1.cell? ⟨RB, 4, none⟩ = some (.int .u64 0) := bc_ hbR 4;have f4 : w1.frozen? ⟨RB, 4, none⟩ = false := bf_ hbR 4;have z5 : w1.cell? ⟨RB, 5, none⟩ = some (.int .u64 0) := bc_ hbR 5;have f5 : w1.frozen? ⟨RB, 5, none⟩ = false := bf_ hbR 5;clear hbR;clear hbM;have hs1 : RB < w1.heap.size := gy hlt2 hb1.out.size;have hzF := hi_ (hz.out.mq 0 rfl [.slice ab nb cb, .int .u64 m.nv, .slice ah m.homes.length ch, .slice as_ m.seats.length cs, .int .u64 m.ns, .int .u64 m.a_] rfl);simp only [World.setCells, di] at hzF;have hnw := hi_ (Uw w1);refine hi_ ?_;cases B with
 | true =>
  replace hB : Hid (jq m) := hi_ (hB.out.1 rfl);go_wp2_with fail;refine bodyPost_ret (results_cell_row rfl _ _ _ 27 _ (0, 0) _ rfl (hzF.out.box 0 rfl).1 underlying27 rfl rfl) rfl ?_;exact ⟨_, rfl, hi_ (.inl ⟨hB.out, rfl⟩), hi_ hzF.out.bel⟩
 | false =>
  replace hB : Hid (¬ jq m) := hi_ (fun h => Bool.noConfusion (hB.out.2 h));clear hzF;go_wp2_with (go_at_call 29; refine hnw.out.mono ?_; rintro e w2 ⟨v2, rfl, hv2, hb2⟩; clear z0 z1 z2 z3 z4 z5 f0 f1 f2 f3 f4 f5 x0 x1 x2 x3 x4 x5; refine Ae ?_);obtain ⟨ab2, cb2, nb2, ah2, ch2, as2, cs2, rfl⟩ := hv2.out.now.xu;have hzn := hi_ (hz.out.below hb2.out);obtain ⟨hbR, -⟩ := hzn.out.box 0 rfl;have z0 : w2.cell? ⟨RB, 0, none⟩ = some (.slice none 0 0) := bc_ hbR 0;have f0 : w2.frozen? ⟨RB, 0, none⟩ = false := bf_ hbR 0;have z1 : w2.cell? ⟨RB, 1, none⟩ = some (.int .u64 0) := bc_ hbR 1;have f1 : w2.frozen? ⟨RB, 1, none⟩ = false := bf_ hbR 1;have z2 : w2.cell? ⟨RB, 2, none⟩ = some (.slice none 0 0) := bc_ hbR 2;have f2 : w2.frozen? ⟨RB, 2, none⟩ = false := bf_ hbR 2;have z3 : w2.cell? ⟨RB, 3, none⟩ = some (.slice none 0 0) := bc_ hbR 3;have f3 : w2.frozen? ⟨RB, 3, none⟩ = false := bf_ hbR 3;have z4 : w2.cell? ⟨RB, 4, none⟩ = some (.int .u64 0) := bc_ hbR 4;have f4 : w2.frozen? ⟨RB, 4, none⟩ = false := bf_ hbR 4;have z5 : w2.cell? ⟨RB, 5, none⟩ = some (.int .u64 0) := bc_ hbR 5;have f5 : w2.frozen? ⟨RB, 5, none⟩ = false := bf_ hbR 5;clear hbR;have hzF := hi_ (hzn.out.mq 0 rfl [.slice ab2 nb2 cb2, .int .u64 Fq.nv, .slice ah2 Fq.homes.length ch2, .slice as2 Fq.seats.length cs2, .int .u64 Fq.ns, .int .u64 Fq.a_] rfl);have hkF := hi_ (o_.sets [.slice ab2 nb2 cb2, .int .u64 Fq.nv, .slice ah2 Fq.homes.length ch2, .slice as2 Fq.seats.length cs2, .int .u64 Fq.ns, .int .u64 Fq.a_] 0 (o_.refl w2 RB));simp only [World.setCells, di] at hzF hkF;refine hi_ ?_;go_wp2_with fail;refine bodyPost_ret (results_cell_row rfl _ _ _ 27 _ (0, 0) _ rfl (hzF.out.box 0 rfl).1 underlying27 rfl rfl) rfl ?_;refine ⟨_, rfl, hi_ (.inr ⟨hB.out, ?_⟩), hi_ hzF.out.bel⟩;refine (hv2.out.on (yw hkF.out.size.symm) (fun k hk _ => hkF.out.block k (Nat.ne_of_gt (gy hs1 hk)))).weak (fun k _ hk => ?_);have h1 := hbel.out.size;have h2 := hb1.out.size;have h3 : w1.heap.size ≤ k := hk;show W.heap.size ≤ k;omega
end
section
open Go.RowKit
def aBx : ByteArray := ⟨#[97]⟩
def inB : ByteArray := ⟨#[73, 78, 66, 79, 88]⟩
def h1B : ByteArray := mkB (M_ 1)
def go_ : Rq := ⟨0, 0, 0, 0, 0, 0, ⟨#[]⟩, ⟨#[]⟩, 0, [], [], 0, false, 0, ⟨#[]⟩, 0, 0⟩
def rqA : Rq := { go_ with op := 1, node := 1, life := 1, ek := 1 }
def rqB : Rq := { go_ with op := 4, session := 1, number := 1, box := aBx }
def rqC : Rq := { go_ with op := 6, session := 1, number := 2, box := aBx, hash := h1B, size := 3 }
def mlA : Ml := { Fq with homes := [⟨1, 1, 1⟩], seats := [⟨1, 0, 1, 1, 1⟩], ns := 2 }
def mlB : Ml := { mlA with boxes := [⟨inB, 1, 1, 1, []⟩, ⟨aBx, 2, 1, 1, []⟩], nv := 3, seats := [⟨1, 1, 1, 1, 1⟩] }
def mlC : Ml := { mlB with boxes := [⟨inB, 1, 1, 1, []⟩, ⟨aBx, 2, 2, 2, [⟨1, [], 2, h1B, 3⟩]⟩], seats := [⟨1, 2, 1, 1, 1⟩] }
theorem apA : lm Fq rqA = (mlA, ⟨0, 1, 0, [], []⟩) := by kernel_rfl
theorem apB : lm mlA rqB = (mlB, ⟨0, 0, 2, [], []⟩) := by kernel_rfl
theorem apC : lm mlB rqC = (mlC, ⟨0, 0, 2, [1], []⟩) := by kernel_rfl
theorem apD : (lm mlC rqC).2 = ⟨14, 0, 0, [], []⟩ := by kernel_rfl
theorem Gr.of (m : Ml) (h1 : m.boxes.length ≤ 500) (h2 : m.homes.length ≤ 100) (h3 : m.seats.length ≤ 1000) (h4 : Tw m) (h5 : ∀ b ∈ m.boxes, b.next ≤ 4294967296) (h6 : ∀ b ∈ m.boxes, b.high ≤ 9223372036854775807) (h7 : ∀ b ∈ m.boxes, b.letters.length ≤ 10000) (h8 : ∀ b ∈ m.boxes, ∀ x ∈ b.letters, x.flags.length = 0) (h9 : m.boxes.Pairwise (fun x y => mh x y = true)) (h10 : m.a_ ≤ 9223372036854775807) : Gr m :=
 ⟨⟨by omega, by omega, h3, h7, fun b hb x hx => by rw [h8 b hb x hx]; omega⟩, h1, h2, h4, h5, h6, fun b hb x hx y hy => by
  rw [Ah.1 (h8 b hb x hx)] at hy;exact absurd hy qb, h9, h10⟩
theorem stN : Gr Fq := Gr.of _ (by decide) (by decide) (by decide) ⟨dm (by kernel_rfl), dm (by kernel_rfl)⟩ (dm (by kernel_rfl)) (dm (by kernel_rfl)) (dm (by kernel_rfl)) (dm (by kernel_rfl)) (dm (by kernel_rfl)) (by decide)
theorem stA : Gr mlA := Gr.of _ (by decide) (by decide) (by decide) ⟨dm (by kernel_rfl), dm (by kernel_rfl)⟩ (dm (by kernel_rfl)) (dm (by kernel_rfl)) (dm (by kernel_rfl)) (dm (by kernel_rfl)) (dm (by kernel_rfl)) (by decide)
theorem stB : Gr mlB := Gr.of _ (by decide) (by decide) (by decide) ⟨dm (by kernel_rfl), dm (by kernel_rfl)⟩ (dm (by kernel_rfl)) (dm (by kernel_rfl)) (dm (by kernel_rfl)) (dm (by kernel_rfl)) (dm (by kernel_rfl)) (by decide)
theorem stC : Gr mlC := Gr.of _ (by decide) (by decide) (by decide) ⟨dm (by kernel_rfl), dm (by kernel_rfl)⟩ (dm (by kernel_rfl)) (dm (by kernel_rfl)) (dm (by kernel_rfl)) (dm (by kernel_rfl)) (dm (by kernel_rfl)) (by decide)
theorem Ol (q : Rq) (h1 : q.flags.length = 0) (h2 : q.h_.length = 0) (h3 : q.box.size ≤ 1) : Qy q :=
 ⟨⟨by omega, fun x hx => by rw [Ah.1 h1] at hx; exact absurd hx qb, by omega⟩, by unfold maxLen; omega⟩
theorem okA : Qy rqA := Ol _ rfl rfl (by decide)
theorem okB : Qy rqB := Ol _ rfl rfl (by decide)
theorem okC : Qy rqC := Ol _ rfl rfl (by decide)
def y0 : RqV := ⟨none, 0, none, 0⟩
theorem ct_ (W : World) (q : Rq) (h1 : q.flags = []) (h2 : q.h_ = []) : Ac W q y0 := by
 unfold Ac;rw [h1, h2];exact ⟨⟨none, 0, rfl, .inl rfl⟩, ⟨none, 0, rfl, .inl rfl⟩⟩
theorem fdC : Gw mlC aBx = some ⟨aBx, 2, 2, 2, [⟨1, [], 2, h1B, 3⟩]⟩ := by kernel_rfl
end
section
open Go.RowKit
def Sd (md : Region.Mode) (ops : Array Oper) (n : Nat) : Bool := decide (ops.size ≤ n) || (Region.sinkB md ops n && chB md ops n)
theorem Mi {md : Region.Mode} {ops : Array Oper} {n : Nat} {listed : Array Bool} (hs : Sd md ops n = true) (inv : HeadInv md ops n listed) {i : Nat} (hi : i < n) (hun : listed.getD i true = false) : ∀ t, n ≤ t → t ∉ Region.ready md ops listed := by
 unfold Sd at hs;simp only [Bool.or_eq_true, qd, decide_eq_true_eq] at hs;rcases hs with hs | ⟨h1, h2⟩
 ·intro t ht hr;obtain ⟨_, ot, hot, _⟩ := mem_ready.1 hr;have := (bv.1 hot).1;omega
 exact Ht h1 h2 inv _ i rfl hi hun
structure ev_ (ops : Array Oper) (n : Nat) : Prop where
 sel : Region.noSelect ops = true
 tail : Sd .any ops n = true
section
variable {P : Program} {ops : Array Oper} {Q : Exit → Act → World → Prop} {md : Region.Mode} {p : Nat} {S : Bool → World → Prop} {T : Array Bool → Act → World → Prop}
def gb_ (md : Region.Mode) (ops : Array Oper) (n i p : Nat) (S : Bool → World → Prop) : World → Prop := fun w => ∃ l : Array Bool, HeadInv md ops n l ∧ l.getD i true = false ∧ S (l.getD p false) w
theorem gb_.early {n i : Nat} {w : World} (h : gb_ md ops n i p S w) (hw : Region.waitsFor md ops p i = true) : S false w := by
 obtain ⟨l, inv, h0, hS⟩ := h;cases hl : l.getD p false with
 | false => rw [hl] at hS; exact hS
 | true =>
  obtain ⟨o, ho, e, he, hb, hon⟩ := Region.waitsFor_spec hw;have h2 := inv.closed p o ho hl e he hb;rw [hon, getD_both h0] at h2;cases h2
def Tz (P : Program) (md : Region.Mode) (ops : Array Oper) (Q : Exit → Act → World → Prop) (p : Nat) (S : Bool → World → Prop) (n : Nat) (T : Array Bool → Act → World → Prop) : Nat → Array Bool → Act → World → Prop
 | 0, listed, a, w => O_ md ops n listed = true ∧ T listed a w
 | f + 1, listed, a, w => Region.ready md ops listed ≠ [] ∧ ∀ i ∈ Region.ready md ops listed, i < n ∧ wpOp P ops Q i (fun a' w' => S ((listed.setIfInBounds i true).getD p false) w' ∧ Tz P md ops Q p S n T f (listed.setIfInBounds i true) a' w') a w
theorem Ka {n g : Nat} (hT : ∀ listed a w, T listed a w → wpAny P md ops Q g listed a w) :
  ∀ (f : Nat) (listed : Array Bool) (a : Act) (w : World), Tz P md ops Q p S n T f listed a w → wpAny P md ops Q (f + g) listed a w
 | 0, listed, a, w, h => by rw [di]; exact hT _ _ _ h.2
 | f + 1, listed, a, w, h => by
  rw [show f + 1 + g = (f + g) + 1 by omega];exact ⟨fun h0 => absurd h0 h.1, fun i hi => wpOp_mono (fun a' w' h' => Ka hT f _ a' w' h'.2) (h.2 i hi).2⟩
theorem Ty {n i : Nat} {oi : Oper} {v : Value} (hi : ops[i]? = some oi) (hsel : ∀ (j : Nat) (o : Oper) cs b, ops[j]? = some o → o.op ≠ .select cs b)
  (hQ : ∀ c a w, Q (.panic c) (a.put oi.dst v) w → Q (.panic c) a w)
  (hs : Sd md ops n = true) (hin : i < n) :
  ∀ (f : Nat) (listed : Array Bool) (a : Act) (w : World), HeadInv md ops n listed →
   (∀ j oj, ops[j]? = some oj → j ≠ i → listed.getD j true = false → (∀ e ∈ oj.after, Region.binds md e = true → e.on ≠ i) → oi.apart ops oj = true) →
   i ∈ Region.ready md ops listed → i ≠ p → YieldsIf P ops (gb_ md ops n i p S) oi v a → S (listed.getD p false) w →
   Tz P md ops Q p S n T f (listed.setIfInBounds i true) (a.put oi.dst v) w → Tz P md ops Q p S n T (f + 1) listed a w := by
 intro f;induction f with
 | zero =>
  intro listed a w inv _ hr hip hy hS H;have hun := (mem_ready.1 hr).1;refine ⟨fun h => (by rw [h] at hr; cases hr), fun j hj => ?_⟩;have hjn : j < n := by
   rcases oo j n with h | h
   ·exact h
   exact absurd hj (Mi hs inv hin hun j h)
  refine ⟨hjn, ?_⟩;by_cases hji : j = i
  ·subst hji; exact hy.wpOp hi ⟨listed, inv, hun, hS⟩ ⟨by rw [getD_set_ne false hip]; exact hS, H⟩
  have := Oz H.1 j (ready_mono hj hji);omega
 | succ f ih =>
  intro listed a w inv hfree hr hip hy hS H;have hun := (mem_ready.1 hr).1;refine ⟨fun h => (by rw [h] at hr; cases hr), fun j hj => ?_⟩;have hjn : j < n := by
   rcases oo j n with h | h
   ·exact h
   exact absurd hj (Mi hs inv hin hun j h)
  refine ⟨hjn, ?_⟩;by_cases hji : j = i
  ·subst hji; exact hy.wpOp hi ⟨listed, inv, hun, hS⟩ ⟨by rw [getD_set_ne false hip]; exact hS, H⟩
  have h1 := (H.2 j (ready_mono hj hji)).2;obtain ⟨hjun, oj, hoj, hall⟩ := mem_ready.1 hj;have hnot : ∀ e ∈ oj.after, Region.binds md e = true → e.on ≠ i := fun e he hb heq => by
   have h1 := hall e he hb;rw [heq, getD_both hun] at h1;cases h1
  have h2 := wpOp_putIf hoj (hfree j oj hoj hji hjun hnot) (fun cs b => hsel i oi cs b hi) (fun cs b => hsel j oj cs b hoj) hQ hy h1;have hfree' : ∀ k ok, ops[k]? = some ok → k ≠ i → (listed.setIfInBounds j true).getD k true = false →
    (∀ e ∈ ok.after, Region.binds md e = true → e.on ≠ i) → oi.apart ops ok = true := fun k ok hk hki hun hno => by
   refine hfree k ok hk hki ?_ hno;by_cases hjk : j = k
   ·subst hjk; exact hjun
   rw [getD_set_ne true hjk] at hun; exact hun
  have hSj : ∀ w', S (((listed.setIfInBounds i true).setIfInBounds j true).getD p false) w' → S ((listed.setIfInBounds j true).getD p false) w' := fun w' h => by rw [Array.setIfInBounds_comm _ _ (Ne.symm hji), getD_set_ne false hip] at h; exact h
  refine wpOp_mono (fun a' w' h3 => ⟨hSj _ h3.2.1, ih (listed.setIfInBounds j true) a' w' (inv.set hj hjn) hfree' (ready_mono hr (Ne.symm hji)) hip h3.1 (hSj _ h3.2.1) ?_⟩) h2;rw [Array.setIfInBounds_comm _ _ hji];exact h3.2.2
def HdP (P : Program) (ops : Array Oper) (Q : Exit → Act → World → Prop) (p : Nat) (S : Bool → World → Prop) (n : Nat) (T : Array Bool → Act → World → Prop) (f : Nat) (listed : Array Bool) (a : Act) (w : World) : Prop :=
 HeadInv .any ops n listed → Tz P .any ops Q p S n T f listed a w
theorem HdP.take {n i f : Nat} {oi : Oper} {v : Value} {listed : Array Bool} {a : Act} {w : World} (hok : ev_ ops n) (hi : ops[i]? = some oi) (hb : (decide (i < n) && ((Region.ready .any ops listed).contains i && Region.free .any ops listed i)) = true)
  (hQ : ∀ c a w, Q (.panic c) (a.put oi.dst v) w → Q (.panic c) a w) (hip : i ≠ p) (hy : YieldsIf P ops (gb_ .any ops n i p S) oi v a) (hS : S (listed.getD p false) w)
  (h : HdP P ops Q p S n T f (listed.setIfInBounds i true) (a.put oi.dst v) w) : HdP P ops Q p S n T (f + 1) listed a w := fun inv => by
 simp only [qd, decide_eq_true_eq] at hb;have hr : i ∈ Region.ready .any ops listed := by simpa using hb.2.1
 exact Ty hi (Region.noSelect_spec hok.sel) hQ hok.tail hb.1 f listed a w inv (Region.free_spec hi hb.2.2) hr hip hy hS (h (inv.set hr hb.1))
theorem HdP.one {n i f : Nat} {oi : Oper} {listed : Array Bool} {a : Act} {w : World} (hi : ops[i]? = some oi) (hb : (decide (i < n) && (Region.ready .any ops listed == [i])) = true)
  (h : ∀ K' : Act → World → Prop, Shut (∀ a w, S ((listed.setIfInBounds i true).getD p false) w → HdP P ops Q p S n T f (listed.setIfInBounds i true) a w → K' a w) → if Region.wanted oi (yielded ops a.tmps) = true then Oper.wp P oi a w K' Q else K' (a.put oi.dst undef) w) : HdP P ops Q p S n T (f + 1) listed a w := fun inv => by
 simp only [qd, decide_eq_true_eq, beq_iff_eq] at hb;have hr : i ∈ Region.ready .any ops listed := by rw [hb.2]; simp
 refine ⟨by rw [hb.2]; simp, fun j hj => ?_⟩;rw [hb.2] at hj;obtain rfl : j = i := by simpa using hj
 exact ⟨hb.1, wpOp_step hi (fun K' hK => h K' (fun a w hS hW => hK a w ⟨hS, hW (inv.set hr hb.1)⟩))⟩
theorem HdP.two {n i k f : Nat} {oi ok : Oper} {listed : Array Bool} {a : Act} {w : World} (hi : ops[i]? = some oi) (hk : ops[k]? = some ok) (hb : (decide (i < n) && (decide (k < n) && (Region.ready .any ops listed == [i, k]))) = true)
  (h : ∀ K' : Act → World → Prop, Shut (∀ a w, S ((listed.setIfInBounds i true).getD p false) w → HdP P ops Q p S n T f (listed.setIfInBounds i true) a w → K' a w) → if Region.wanted oi (yielded ops a.tmps) = true then Oper.wp P oi a w K' Q else K' (a.put oi.dst undef) w)
  (h2 : ∀ K' : Act → World → Prop, Shut (∀ a w, S ((listed.setIfInBounds k true).getD p false) w → HdP P ops Q p S n T f (listed.setIfInBounds k true) a w → K' a w) → if Region.wanted ok (yielded ops a.tmps) = true then Oper.wp P ok a w K' Q else K' (a.put ok.dst undef) w) : HdP P ops Q p S n T (f + 1) listed a w := fun inv => by
 simp only [qd, decide_eq_true_eq, beq_iff_eq] at hb;have hri : i ∈ Region.ready .any ops listed := by rw [hb.2.2]; simp
 have hrk : k ∈ Region.ready .any ops listed := by rw [hb.2.2]; simp
 refine ⟨by rw [hb.2.2]; simp, fun j hj => ?_⟩;rw [hb.2.2] at hj;by_cases e : j = i
 ·subst e;exact ⟨hb.1, wpOp_step hi (fun K' hK => h K' (fun a w hS hW => hK a w ⟨hS, hW (inv.set hri hb.1)⟩))⟩
 obtain rfl : j = k := by
  simp only [d_, qb, or_false] at hj;rcases hj with h | h
  ·exact absurd h e
  exact h
 exact ⟨hb.2.1, wpOp_step hk (fun K' hK => h2 K' (fun a w hS hW => hK a w ⟨hS, hW (inv.set hrk hb.2.1)⟩))⟩
theorem HdP.fin {n : Nat} {listed : Array Bool} {a : Act} {w : World} (hb : O_ .any ops n listed = true) (h : HeadInv .any ops n listed → T listed a w) : HdP P ops Q p S n T 0 listed a w := fun inv => ⟨hb, h inv⟩
theorem HdP.done {n g : Nat} {l : List Oper} {listed : Array Bool} {a : Act} {w : World} (hb : (O_ .any ops n listed && Region.seqB .any ops g n listed) = true) (h : wpList P ops Q l a w) : HdP P ops Q p S n (Wp P ops Q n g l) 0 listed a w := fun _ => by
 rw [qd] at hb;exact ⟨hb.1, hb.2, h⟩
end
section
variable {P : Program} {ops : Array Oper} {Q : Exit → Act → World → Prop} {S : World → Prop} {T : Array Bool → Act → World → Prop}
theorem Hd.three {n i k m f : Nat} {oi ok om : Oper} {listed : Array Bool} {a : Act} {w : World} (hi : ops[i]? = some oi) (hk : ops[k]? = some ok) (hm : ops[m]? = some om) (hb : (decide (i < n) && (decide (k < n) && (decide (m < n) && (Region.ready .any ops listed == [i, k, m])))) = true)
  (h : ∀ K' : Act → World → Prop, Shut (∀ a w, S w → Hd P ops Q S n T f (listed.setIfInBounds i true) a w → K' a w) → if Region.wanted oi (yielded ops a.tmps) = true then Oper.wp P oi a w K' Q else K' (a.put oi.dst undef) w)
  (h2 : ∀ K' : Act → World → Prop, Shut (∀ a w, S w → Hd P ops Q S n T f (listed.setIfInBounds k true) a w → K' a w) → if Region.wanted ok (yielded ops a.tmps) = true then Oper.wp P ok a w K' Q else K' (a.put ok.dst undef) w)
  (h3 : ∀ K' : Act → World → Prop, Shut (∀ a w, S w → Hd P ops Q S n T f (listed.setIfInBounds m true) a w → K' a w) → if Region.wanted om (yielded ops a.tmps) = true then Oper.wp P om a w K' Q else K' (a.put om.dst undef) w) : Hd P ops Q S n T (f + 1) listed a w := fun inv => by
 simp only [qd, decide_eq_true_eq, beq_iff_eq] at hb;have hri : i ∈ Region.ready .any ops listed := by rw [hb.2.2.2]; simp
 have hrk : k ∈ Region.ready .any ops listed := by rw [hb.2.2.2]; simp
 have hrm : m ∈ Region.ready .any ops listed := by rw [hb.2.2.2]; simp
 refine ⟨by rw [hb.2.2.2]; simp, fun j hj => ?_⟩;rw [hb.2.2.2] at hj;by_cases e : j = i
 ·subst e;exact ⟨hb.1, wpOp_step hi (fun K' hK => h K' (fun a w hS hW => hK a w ⟨hS, hW (inv.set hri hb.1)⟩))⟩
 by_cases e2 : j = k
 ·subst e2;exact ⟨hb.2.1, wpOp_step hk (fun K' hK => h2 K' (fun a w hS hW => hK a w ⟨hS, hW (inv.set hrk hb.2.1)⟩))⟩
 obtain rfl : j = m := by
  simp only [d_, qb, or_false] at hj;rcases hj with h | h | h
  ·exact absurd h e
  ·exact absurd h e2
  exact h
 exact ⟨hb.2.2.1, wpOp_step hm (fun K' hK => h3 K' (fun a w hS hW => hK a w ⟨hS, hW (inv.set hrm hb.2.2.1)⟩))⟩
end
theorem Qf {P : Program} {Q : Exit → Act → World → Prop} {id : Nat} {a : Act} {w : World} {l : List Oper} (p : Nat) (S : Bool → World → Prop) (n g : Nat) (hm : P.follows .mixedOrders = true) (hg : n + g = l.length) (hok : ev_ l.toArray n) (hS : S false w.drew)
  (h : ev_ l.toArray n → S false w.drew → HdP P l.toArray Q p S n (Wp P l.toArray Q n g (l.drop n)) n (Array.replicate l.toArray.size false) a w.drew) : (Code.region id l.toArray true).wp P Q a w := by
 refine wp_region_any hm ?_;have := Ka (Q := Q) (p := p) (S := S) (g := g) (n := n) (Rb hg) n _ _ _ (h hok hS (Rj l n));rw [hg] at this;simpa using this
end
section
open Go.RowKit
attribute [local go_sem ↓] Go.wp_at_zero Go.wp_at_succ
theorem Ct {u v : ByteArray} (h : u.toList = v.toList) : u = v := by
 rw [ib, ib] at h;obtain ⟨⟨a⟩⟩ := u;obtain ⟨⟨b⟩⟩ := v;simp only at h;rw [h]
theorem Jt (W : World) (o o2 : Obj) : Below W.heap.size W ((W.alloc o).alloc o2) := ((ae _ W).alloc (ax _) o).alloc (by simp) o2
set_option maxRecDepth 100000 in
set_option maxHeartbeats 16000000 in
theorem Xl {W : World} (X Y : LtV) (hX : Cq W X.v X.x.flags) (hY : Cq W Y.v Y.x.flags) (hl : X.x.flags.length * 16 ≤ 140737488355328) :
  Calls prog 25 #[.agg (nz X).toArray, .agg (nz Y).toArray] W (Jh (X.x = Y.x) W) := by
 have hX := hi_ (fun w (hb : Below W.heap.size W w) => hX.below hb);have hY := hi_ (fun w (hb : Below W.heap.size W w) => hY.below hb);replace hl := hi_ hl;unfold nz;go_enter func25, ntmps25;cases l0 : ((X.x.uid : Int) == (Y.x.uid : Int)) with
 | false =>
  have n0 : Hid (X.x.uid ≠ Y.x.uid) := hi_ (fun h => by rw [h] at l0; simp at l0);go_wp2_with fail;go_ret;exact ⟨false, rfl, hi_ ⟨nofun, fun h => absurd (jk Lt.uid h) n0.out⟩, hi_ (Jt _ _ _)⟩
 | true =>
  have n0 : Hid (X.x.uid = Y.x.uid) := hi_ (by have h := eq_of_beq l0; omega);cases l1 : ((X.x.mod : Int) == (Y.x.mod : Int)) with
  | false =>
   have n1 : Hid (X.x.mod ≠ Y.x.mod) := hi_ (fun h => by rw [h] at l1; simp at l1);go_wp2_with fail;go_ret;exact ⟨false, rfl, hi_ ⟨nofun, fun h => absurd (jk Lt.mod h) n1.out⟩, hi_ (Jt _ _ _)⟩
  | true =>
   have n1 : Hid (X.x.mod = Y.x.mod) := hi_ (by have h := eq_of_beq l1; omega);cases l2 : (X.x.hash.toList == Y.x.hash.toList) with
   | false =>
    have n2 : Hid (X.x.hash ≠ Y.x.hash) := hi_ (fun h => by rw [h] at l2; simp at l2);go_wp2_with fail;go_ret;exact ⟨false, rfl, hi_ ⟨nofun, fun h => absurd (jk Lt.hash h) n2.out⟩, hi_ (Jt _ _ _)⟩
   | true =>
    have n2 : Hid (X.x.hash = Y.x.hash) := hi_ (Ct (by simpa using l2));cases l3 : ((X.x.size : Int) == (Y.x.size : Int)) with
    | false =>
     have n3 : Hid (X.x.size ≠ Y.x.size) := hi_ (fun h => by rw [h] at l3; simp at l3);go_wp2_with fail;go_ret;exact ⟨false, rfl, hi_ ⟨nofun, fun h => absurd (jk Lt.size h) n3.out⟩, hi_ (Jt _ _ _)⟩
    | true =>
     have n3 : Hid (X.x.size = Y.x.size) := hi_ (by have h := eq_of_beq l3; omega);have hs := hi_ (fun w hb => Ul X.v Y.v X.x.flags Y.x.flags w (hX.out w hb) (hY.out w hb) hl.out);go_wp2_with (go_at_call 24; refine (hs.out _ (Jt _ _ _)).mono ?_; rintro e w3 ⟨rfl, hb3⟩; replace hb3 := hi_ hb3);go_ret;refine ⟨_, rfl, hi_ ?_, hi_ ?_⟩
     ·rw [decide_eq_true_eq];refine ⟨fun h => ?_, fun h => jk Lt.flags h⟩;have := n0.out; have := n1.out; have := n2.out; have := n3.out
      obtain ⟨⟨_, _, _, _, _⟩, _, _⟩ := X;obtain ⟨⟨_, _, _, _, _⟩, _, _⟩ := Y;simp only at *;subst_vars;rfl
     exact (Jt _ _ _).trans (hb3.out.mono (Jt _ _ _).size)
end
section
open Go.RowKit
attribute [local go_sem ↓] Go.wp_at_zero Go.wp_at_succ
theorem ve.Fw {W : World} {v : Value} {rows : List LtV} (h : ve W v rows) {j : Nat} (hj : j < rows.length) : ∃ b bo cap, v = .slice (some ⟨b, bo, none⟩) rows.length cap ∧
  ∀ W', Below W.heap.size W W' → W'.cell? ⟨b, bo + j * 5, none⟩ = some (.int .u64 rows[j].x.uid) ∧ W'.cell? ⟨b, bo + j * 5 + 1, none⟩ = some rows[j].v ∧ W'.cell? ⟨b, bo + j * 5 + 2, none⟩ = some (.int .u64 rows[j].x.mod) ∧ W'.cell? ⟨b, bo + j * 5 + 3, none⟩ = some (.string rows[j].x.hash) ∧ W'.cell? ⟨b, bo + j * 5 + 4, none⟩ = some (.int .u64 rows[j].x.size) := by
 obtain ⟨b, bo, cap, hv, -, hbl, hc⟩ := ltT.ow h.1 hj;refine ⟨b, bo, cap, hv, fun W' hb => ?_⟩;have hk : ∀ r u, (ltT.enc rows[j])[r]? = some u → W'.cell? ⟨b, bo + j * 5 + r, none⟩ = some u := fun r u hu => by
  rw [qa];exact (hb.cell (p := ⟨b, bo + (j * 5 + r), none⟩) hbl).trans (hc r u hu)
 exact ⟨hk 0 _ rfl, hk 1 _ rfl, hk 2 _ rfl, hk 3 _ rfl, hk 4 _ rfl⟩
end
section
open Go.RowKit
def dt_ (n : Nat) : Value := .int .u64 (n : Int)
theorem Lu : ∀ l : List Nat, ky.cells l = l.map dt_
 | [] => rfl
 | x :: r => by
  have h : ky.cells (x :: r) = .int .u64 (x : Int) :: ky.cells r := rfl;rw [h, Lu r];rfl
theorem Uu {w : World} {b o k : Nat} {l : List Nat} (hc : ∀ i u, (l.map dt_)[i]? = some u → w.cell? ⟨b, o + i, none⟩ = some u) (hk : k < l.length) : w.cell? ⟨b, o + k, none⟩ = some (.int .u64 (l[k] : Nat)) := hc k _ (by rw [ji, ay hk]; rfl)
set_option maxRecDepth 100000 in
set_option maxHeartbeats 4000000 in
theorem Gh (va vb : Value) (a b : List Nat) (w : World) (ha : Rd w va a.length (a.map dt_)) (hb : Rd w vb b.length (b.map dt_)) (hl : a.length ≤ 9223372036854775807) :
  Calls prog 30 #[va, vb] w fun e w' => e = .returned (.bool (decide (a = b))) ∧ Below w.heap.size w w' := by
 have ha0 := hi_ ha;have hb0 := hi_ hb;obtain ⟨ao, cap, rfl, -⟩ := ha;obtain ⟨ao2, cap2, rfl, -⟩ := hb;by_cases hlen : a.length = b.length
 ·go_enter func30, ntmps30;rw [← hlen];have hne : ((a.length : Int) != (a.length : Int)) = false := by simp
  have hlen0 := hi_ hlen;clear hlen;go_wp2_with fail;go_loopw [5] (fun v5 wr => ∃ q : Nat, v5 = .int .i64 q ∧ q ≤ a.length ∧ Hid (a.take q = b.take q) ∧ Hid (Below w.heap.size w wr)) (fun v5 _ => a.length - (intOf v5).toNat);case atStart => exact ⟨0, rfl, dw _, hi_ rfl, hi_ (ae _ _)⟩
  case round =>
   obtain ⟨q, rfl, hq, heq, hbl⟩ := hrel;by_cases hlt : q < a.length
   ·have hlt2 : q < b.length := (by rw [← hlen0.out]; exact hlt);obtain ⟨b1, o1, hao, hbl1, hcell1⟩ := ha0.out.Bz (by omega);obtain ⟨b2, o2, hao2, hbl2, hcell2⟩ := hb0.out.Bz (by omega);subst hao hao2;have c1 := (hbl.out.cell (p := ⟨b1, o1 + q, none⟩) hbl1).trans (Uu hcell1 hlt);have c2 := (hbl.out.cell (p := ⟨b2, o2 + q, none⟩) hbl2).trans (Uu hcell2 hlt2);have hstep : a[q] = b[q] → a.take (q + 1) = b.take (q + 1) := fun h => (by rw [ak hlt, ak hlt2, heq.out, h]);have hdiff : a[q] ≠ b[q] → decide (a = b) = false := fun h => aj (fun e => h (by subst e; rfl));generalize a[q] = x at c1 hstep hdiff;generalize b[q] = y at c2 hstep hdiff;clear hcell1 hcell2 hlt2;have hbW := hi_ (fun m => qw hbl.out m);have hi0 : (0 : Int) ≤ (q : Int) := (by omega);have hi1 : (q : Int) < (a.length : Int) := (by omega);by_cases hxy : x = y
    ·have hs := hi_ (hstep hxy);have hn : ((x : Int) != (y : Int)) = false := (by rw [hxy]; simp);clear hstep hdiff hxy;go_wp2_with fail;go_quiet (fail);go_wp2_with fail;go_roundw;case rel => exact ⟨q + 1, by go_num, by omega, hs, hi_ (hbW.out _)⟩
     case measure => simp [intOf] <;> omega
    have hd := hi_ (hdiff hxy);have hn : ((x : Int) != (y : Int)) = true := (by rw [bne_iff_ne]; omega);clear hstep hdiff hxy;go_wp2_with fail;go_quiet (fail);go_wp2_with fail;go_ret;exact ⟨by rw [hd.out]; rfl, hbW.out _⟩
   obtain rfl : q = a.length := (by omega);have hd : Hid (decide (a = b) = true) := hi_ (b_ (by
    have h := heq.out;rw [gp] at h;rw [h, hlen0.out, gp]))
   go_wp2_with fail;go_ret;exact ⟨by rw [hd.out]; rfl, hbl.out⟩
 have hn : ((a.length : Int) != (b.length : Int)) = true := by rw [bne_iff_ne]; omega
 have hd : Hid (decide (a = b) = false) := hi_ (aj (fun e => hlen (by rw [e])));clear hlen;go_enter func30, ntmps30;go_wp2_with fail;go_ret;exact ⟨by rw [hd.out]; rfl, ae _ _⟩
end
end Go.Proofs.YtdobbfjmlnlieaaGreat
