/- The document's Apply: what it computes, plain; seats over a ; The document's Apply: walked -/
import Derived.Test.YtdobbfjmlnlieaaGreatA01
import Derived.Test.YtdobbfjmlnlieaaGreatA19
import Derived.Test.YtdobbfjmlnlieaaGreatA20
import Derived.Test.YtdobbfjmlnlieaaGreatA21
import Derived.Test.YtdobbfjmlnlieaaGreatA22
import Derived.Test.YtdobbfjmlnlieaaGreatA24
namespace Go.Proofs.YtdobbfjmlnlieaaGreat
set_option linter.unusedSimpArgs false
namespace Tryz
end Tryz
open Go.Proofs.Tryz Go.Proofs.YtdobbfjmlnlieaaGreat.Tryz
section
open Go.RowKit
theorem Oh {s n : Nat} {g : Bool} : ∀ {l : List St}, (∀ x ∈ l, x.session ≠ s) → qo s n g l = l
 | [], _ => rfl
 | x :: r, h => by
  have h1 : qo s n g (x :: r) = yj s n g x ++ qo s n g r := ql;rw [h1, Oh (fun y hy => h y (jh _ hy))];unfold yj;rw [bq (h x (wu ..))]; rfl
theorem Le {s n : Nat} : ∀ {l : List St} {i : Nat}, l.Pairwise (fun x y => x.session < y.session) → l.findIdx? (fun x => x.session == s) = some i → qo s n false l = l.modify i (fun x => { x with last := n })
 | [], i, _, h => by simp at h
 | x :: r, i, hp, h => by
  have h1 : qo s n false (x :: r) = yj s n false x ++ qo s n false r := ql;have hp' := jg.1 hp;rw [List.findIdx?_cons] at h;by_cases hx : x.session = s
  ·rw [dh (by rw [hx]; simp)] at h;obtain rfl : 0 = i := jc h;rw [h1, Oh (fun y hy e => by have := hp'.1 y hy; omega)];unfold yj;rw [dh hx, bq (by decide)]; rfl
  rw [bq (by simpa using hx)] at h;cases hf : r.findIdx? (fun x => x.session == s) with
  | none => rw [hf] at h; cases h
  | some k =>
   rw [hf] at h;obtain rfl : k + 1 = i := jc h;rw [h1, Le hp'.2 hf];unfold yj;rw [bq hx]; rfl
theorem Oi {s n : Nat} : ∀ (l : List St), (qo s n false l).filter (fun x => !(x.session == s)) = qo s n true l
 | [] => rfl
 | x :: r => by
  have h1 : qo s n false (x :: r) = yj s n false x ++ qo s n false r := ql;have h2 : qo s n true (x :: r) = yj s n true x ++ qo s n true r := ql;rw [h1, h2, kv, Oi r];congr 1;unfold yj;by_cases hx : x.session = s
  ·rw [dh hx, dh hx, bq (by decide), dh rfl];simp [hx]
  rw [bq hx, bq hx];simp [hx]
def rf (m : Ml) (q : Rq) : Ml := { m with seats := qo q.session q.number (q.op == 2) m.seats }
def Ig (m : Ml) (q : Rq) : Ml × Oc :=
 if q.op = 4 then mf (nk m q oc0) else if q.op = 5 then mf (uo m q oc0) else if q.op = 6 then mf (lq m q oc0) else if q.op = 7 then mf (pg m q oc0)
 else if q.op = 8 then mf (oh m q oc0) else if q.op = 9 then mf (uw m q oc0) else (m, oc0)
theorem bx_ {m : Ml} (h : jq m) (q : Rq) : lm m q =
  if q.op < 1 ∨ 10 < q.op ∨ 64 < q.h_.length then (m, ocE 1)
  else if q.op = 1 then mf (r_ m q oc0)
  else if q.op = 10 then (if m.a_ = 9223372036854775807 then (m, ocE 13) else ({ m with a_ := m.a_ + 1 }, oc0))
  else match m.seats.find? (fun x => x.session == q.session) with
   | none => (m, ocE 16)
   | some x => if q.number ≤ x.last then (m, ocE 14) else Ig (rf m q) q := by
 unfold lm;by_cases c1 : q.op < 1 ∨ 11 ≤ q.op ∨ 64 < q.h_.length
 ·rw [dh c1, dh (show q.op < 1 ∨ 10 < q.op ∨ 64 < q.h_.length by omega)]
 rw [bq c1, bq (show ¬ (q.op < 1 ∨ 10 < q.op ∨ 64 < q.h_.length) by omega)];by_cases o1 : q.op = 1
 ·rw [dh (.inl o1), dh o1];unfold Bu;rw [dh o1]
 rw [bq o1];by_cases o10 : q.op = 10
 ·rw [dh (.inr o10), dh o10];unfold Bu;rw [bq (by omega), bq (by omega), bq (by omega), bq (by omega), bq (by omega), bq (by omega), bq (by omega), bq (by omega), bq (by omega)];unfold Jk;split <;> rfl
 rw [bq (fun h => h.elim o1 o10), bq o10];cases hf : m.seats.findIdx? (fun x => x.session == q.session) with
 | none =>
  have hn : m.seats.find? (fun x => x.session == q.session) = none := by
   rw [uk];intro x hx;have := l8.1 hf x hx;rw [this]; decide
  rw [hn]
 | some i =>
  obtain ⟨hi, hp, hno⟩ := jm.1 hf;have hn : m.seats.find? (fun x => x.session == q.session) = some m.seats[i] := by
   rw [ww];refine ⟨hp, i, hi, rfl, fun k hk => ?_⟩;have := hno k hk;simpa using this
  rw [hn];dsimp only;rw [ay hi];show (if q.number ≤ m.seats[i].last then _ else _) = if q.number ≤ m.seats[i].last then _ else _;by_cases hl : q.number ≤ m.seats[i].last
  ·rw [dh hl, dh hl]
  rw [bq hl, bq hl];have hput : qo q.session q.number false m.seats = m.seats.modify i (fun x => { x with last := q.number }) := Le h.seated.sup hf;by_cases o2 : q.op = 2
  ·unfold Bu Ig;rw [bq o1, dh o2, bq (by omega), bq (by omega), bq (by omega), bq (by omega), bq (by omega), bq (by omega)];unfold bi_ y7 rf;rw [show (q.op == 2) = true by rw [o2]; rfl, ← Oi, hput];rfl
  have hs : y7 m i q.number = rf m q := by
   unfold y7 rf;rw [show (q.op == 2) = false from cz.2 o2, hput]
  rw [hs];unfold Bu Ig;rw [bq o1, bq o2];by_cases o3 : q.op = 3
  ·rw [dh o3, bq (by omega), bq (by omega), bq (by omega), bq (by omega), bq (by omega), bq (by omega)];rfl
  rw [bq o3];by_cases o4 : q.op = 4
  ·rw [dh o4, dh o4]
  rw [bq o4, bq o4];by_cases o5 : q.op = 5
  ·rw [dh o5, dh o5]
  rw [bq o5, bq o5];by_cases o6 : q.op = 6
  ·rw [dh o6, dh o6]
  rw [bq o6, bq o6];by_cases o7 : q.op = 7
  ·rw [dh o7, dh o7]
  rw [bq o7, bq o7];by_cases o8 : q.op = 8
  ·rw [dh o8, dh o8]
  rw [bq o8, bq o8, dh (by omega), dh (by omega)]
theorem Qi {m : Ml} (h : jq m) (q : Rq) (i : Nat) (hf : m.seats.findIdx? (fun x => x.session == q.session) = some i) (h2 : q.op ≠ 2) : jq (rf m q) := by
 have hs : y7 m i q.number = rf m q := by
  unfold y7 rf;rw [show (q.op == 2) = false from cz.2 h2, Le h.seated.sup hf]
 rw [← hs];exact Lf h i q.number
theorem Qk {W : World} (D : List Value) (ab ah as_ : Option Addr) (nb cb nv nh ch cs nse sw : Nat) (ss : List St) (session last : Nat) (gone : Bool) (hD : D = [.slice ab nb cb, .int .u64 nv, .slice ah nh ch, .slice as_ ss.length cs, .int .u64 nse, .int .u64 sw]) (hin : z_ W (.slice as_ ss.length cs) ss) (hl : ss.length ≤ 1000) :
  Calls prog 49 #[.agg D.toArray, .int .u64 (session : Int), .int .u64 (last : Int), .bool gone] W fun e w' => ∃ aL cL, e = .returned (.agg (D.set 3 (.slice aL (qo session last gone ss).length cL)).toArray) ∧ Hid (jw (fun k => W.heap.size ≤ k) w' (fun x => z_ x (.slice aL (qo session last gone ss).length cL) (qo session last gone ss))) ∧ Hid (Below W.heap.size W w') := by
 subst hD;exact Sz ab ah as_ nb cb nv nh ch cs nse sw ss session last gone hin hl
theorem xm.seat {w : World} {D : List Value} {m : Ml} {bs : List BxV} (h : xm w D m bs) {S : List St} {a : Option Addr} {c : Nat} (hs : z_ w (.slice a S.length c) S) : xm w (D.set 3 (.slice a S.length c)) { m with seats := S } bs := by
 obtain ⟨ab, cb, ah, ch, as_, cs, rfl, hb, hib, hh, -⟩ := h;exact ⟨ab, cb, ah, ch, a, c, rfl, hb, hib, hh, hs⟩
theorem xm.hd_ {w : World} {D : List Value} {m : Ml} {bs : List BxV} (h : xm w D m bs) (s1 : Nat) : xm w (D.set 5 (.int .u64 (s1 : Int))) { m with a_ := s1 } bs := by
 obtain ⟨ab, cb, ah, ch, as_, cs, rfl, hb, hib, hh, hs⟩ := h;exact ⟨ab, cb, ah, ch, as_, cs, rfl, hb, hib, hh, hs⟩
theorem xm.shape {w : World} {D : List Value} {m : Ml} {bs : List BxV} (h : xm w D m bs) : D.length = 6 ∧ ∀ v ∈ D, v.oneCell' = true := by
 obtain ⟨ab, cb, ah, ch, as_, cs, rfl, -⟩ := h;exact ⟨rfl, xy _ _ _ _ _ _ _ _ _ _ _ _⟩
theorem Dz {W : World} {C : List Value} {m : Ml} (h : pq W (.agg C.toArray) m) : C.length = 6 ∧ ∀ v ∈ C, v.oneCell' = true := by
 obtain ⟨vb, vh, vs, bs, hv, hb, hi, hh, hs⟩ := h;obtain ⟨ab, cb, rfl, -⟩ := hi.1;obtain ⟨ah, ch, rfl, -⟩ := id hh;obtain ⟨as_, cs, rfl, -⟩ := id hs;unfold yg at hv;injection hv with hv;have hv := jk Array.toList hv;rw [show C = _ from hv];exact ⟨rfl, xy _ _ _ _ _ _ _ _ _ _ _ _⟩
theorem Fp {W : World} {O : List Value} {o : Oc} (h : Cf W (.agg O.toArray) o) : O.length = 5 ∧ ∀ v ∈ O, v.oneCell' = true := by
 obtain ⟨aU, cU, aM, cM, hv, -⟩ := h;injection hv with hv;have hv := jk Array.toList hv;rw [show O = _ from hv];refine ⟨rfl, fun v hv => ?_⟩;simp only [d_, qb, or_false] at hv;rcases hv with rfl | rfl | rfl | rfl | rfl <;> rfl
theorem Bl {L : List Nat} {W w : World} {P : World → Prop} (h : jw (okL L) W P) (hb : Below W.heap.size W w) {RB OB : Nat} (h1 : W.heap.size ≤ RB) (h2 : W.heap.size ≤ OB) : jw (okL (RB :: OB :: L)) w P :=
 fun x hx => h x (fun k hk hl => (hx k (fun b hb' => by
  rcases d_.1 hb' with rfl | hb'
  ·omega
  rcases d_.1 hb' with rfl | hb'
  ·omega
  exact hk b hb') (gy hl hb.size)).trans (hb.block k hl))
theorem Ee {W w : World} {Ls : List Th} {L : List Nat} {A B : Array Value} {t u : TypeId} {RB OB : Nat} (hz : Zoo W w (df OB A t :: df RB B u :: Ls)) (hL : ∀ b ∈ L, b < W.heap.size) : W.heap.size ≤ RB ∧ W.heap.size ≤ OB ∧ ∀ b ∈ RB :: OB :: L, b < w.heap.size := by
 refine ⟨(hz.box 1 rfl).2, (hz.box 0 rfl).2, fun b hb => ?_⟩;rcases d_.1 hb with rfl | hb
 ·exact hz.yu 1 rfl
 rcases d_.1 hb with rfl | hb
 ·exact hz.yu 0 rfl
 exact gy (hL b hb) hz.bel.size
theorem Co {W w : World} {Ls : List Th} {L : List Nat} {C O : List Value} {m : Ml} {o : Oc} {RB OB : Nat} (hz : Zoo W w (df OB ([.int .i64 0, .int .u64 0, .int .u64 0, .slice none 0 0, .slice none 0 0] : List Value).toArray 35 :: df RB ([.slice none 0 0, .int .u64 0, .slice none 0 0, .slice none 0 0, .int .u64 0, .int .u64 0] : List Value).toArray 27 :: Ls)) (hC : jw (okL (RB :: OB :: L)) w fun x => pq x (.agg C.toArray) m) (hO : jw (okL (RB :: OB :: L)) w fun x => Cf x (.agg O.toArray) o) :
  Hid ((∀ j, j < C.length → (w.cell? ⟨RB, 0 + j, none⟩).isSome = true) ∧ ∀ j, w.frozen? ⟨RB, j, none⟩ = false) ∧ Hid ((∀ j, j < O.length → ((w.setCells RB 0 C).cell? ⟨OB, 0 + j, none⟩).isSome = true) ∧ ∀ j, (w.setCells RB 0 C).frozen? ⟨OB, j, none⟩ = false) ∧ Hid (Zoo W ((w.setCells RB 0 C).setCells OB 0 O) (df OB O.toArray 35 :: df RB C.toArray 27 :: Ls)) ∧
  Hid (jw (okL L) ((w.setCells RB 0 C).setCells OB 0 O) fun x => pq x (.agg C.toArray) m) ∧ Hid (jw (okL L) ((w.setCells RB 0 C).setCells OB 0 O) fun x => Cf x (.agg O.toArray) o) ∧ Hid (∀ w, (Go.sizeOf 27).run prog w = .ok C.length w) ∧ Hid (∀ w, (Go.sizeOf 35).run prog w = .ok O.length w) ∧ Hid (∀ v ∈ C, v.oneCell' = true) ∧ Hid (∀ v ∈ O, v.oneCell' = true) := by
 obtain ⟨hCl, hC1⟩ := Dz hC.now;obtain ⟨hOl, hO1⟩ := Fp hO.now;have h1 := hz.m_ 1 rfl;have h2 := hz.mq 1 rfl C hCl;have h3 := h2.m_ 0 rfl;exact ⟨hi_ (sm_ h1 hCl), hi_ (sm_ h3 hOl), hi_ (h2.mq 0 rfl O hOl), hi_ (((hC.Ev (B := RB) (by simp) C).Ev (B := OB) (by simp) O).Ib (fun b hb => by simp [hb])), hi_ (((hO.Ev (B := RB) (by simp) C).Ev (B := OB) (by simp) O).Ib (fun b hb => by simp [hb])),
  hi_ (fun w => by rw [hCl]; exact sizeOf27 w), hi_ (fun w => by rw [hOl]; exact sizeOf35 w), hi_ hC1, hi_ hO1⟩
end
section
open Go.RowKit
attribute [local go_sem ↓] Go.wp_at_zero Go.wp_at_succ
set_option maxRecDepth 100000 in
set_option maxHeartbeats 32000000 in
theorem Br {W : World} (L : List Nat) (m : Ml) (q : Rq) (y : RqV) (D : List Value) (bs : List BxV) (hst : jw (okL L) W fun x => xm x D m bs) (hqi : jw (okL L) W fun x => Ac x q y) (hL : ∀ b ∈ L, b < W.heap.size) (hr : jq m) (hq : Qy q) :
  Calls prog 16 #[.agg D.toArray, .agg (fq q y).toArray] W (qg L W (lm m q)) := by
 have hlD : Hid (D.length = 6) := hi_ (by obtain ⟨_, _, _, _, _, _, rfl, -⟩ := hst.now; rfl);have h1D : Hid (∀ v ∈ D, v.oneCell' = true) := hi_ (by obtain ⟨_, _, _, _, _, _, rfl, -⟩ := hst.now; exact xy _ _ _ _ _ _ _ _ _ _ _ _);have hsz : Hid (∀ w, (Go.sizeOf 27).run prog w = .ok D.length w) := hi_ (fun w => by rw [hlD.out]; exact sizeOf27 w);have hz1 := ((ny W).dz D.toArray 27);generalize hMB : W.heap.size = MB at hz1;generalize hWa : (W.alloc (.cells D.toArray 27)) = Wa at hz1;have hz2 := hz1.dz (fq q y).toArray 41;generalize hQB : Wa.heap.size = QB at hz2;generalize hWb : (Wa.alloc (.cells (fq q y).toArray 41)) = Wb at hz2;have hz3 := hz2.dz mlZ.toArray 27;unfold mlZ at hz3;generalize hRB : Wb.heap.size = RB at hz3;generalize hWc : (Wb.alloc (.cells ([.slice none 0 0, .int .u64 0, .slice none 0 0, .slice none 0 0, .int .u64 0, .int .u64 0] : List Value).toArray 27)) = Wc at hz3;have hz4 := hz3.dz ocZ.toArray 35;unfold ocZ at hz4;generalize hOB : Wc.heap.size = OB at hz4;generalize hWd : (Wc.alloc (.cells ([.int .i64 0, .int .u64 0, .int .u64 0, .slice none 0 0, .slice none 0 0] : List Value).toArray 35)) = Wd at hz4;replace hz4 := hi_ hz4;replace hst := hi_ hst;replace hqi := hi_ hqi;replace hL := hi_ hL;clear hz1 hz2 hz3;go_enter func16, ntmps16;go_upto_region 1 with fail;clear hWa hQB hWb hRB hWc hOB hWd;replace hMB := hi_ hMB;obtain ⟨ab, cb, ah, ch, as_, cs, hD, hbs, hib, hih, his⟩ := hst.out.now;have hls : m.seats.length ≤ 16 := hr.ls;have hsw : m.a_ ≤ 9223372036854775807 := hr.sw;have hap := hi_ (bx_ hr q);have his0 : Hid (∀ w', Below W.heap.size W w' → z_ w' (.slice as_ m.seats.length cs) m.seats) := hi_ (fun w' hb => jf his hb);replace hD := hi_ hD;replace hr := hi_ hr;replace hq := hi_ hq;replace hsw := hi_ hsw;clear hib hih his hbs;obtain ⟨hbQ, -⟩ := hz4.out.box 2 rfl;have q0 : Wd.cell? ⟨QB, 0, none⟩ = some (.int .i64 q.op) := bc_ hbQ 0;have q1 : Wd.cell? ⟨QB, 1, none⟩ = some (.int .u64 q.session) := bc_ hbQ 1;have q9 : Wd.cell? ⟨QB, 9, none⟩ = some (.slice y.au q.h_.length y.cu) := bc_ hbQ 9;clear hbQ;by_cases c1 : q.op < 1
 ·have hres : Hid (lm m q = (m, ocE 1)) := hi_ (by rw [hap.out, dh (.inl c1)]);have d1 : decide (q.op < 1) = true := b_ c1;clear hap;go_upto_region 2 with fail;clear q0 q1 q9 c1 d1;have hld := hi_ (ld_ (hz4.out.box 3 rfl).1);go_wp2_with (refine wl_ 27 (.tmp 2) MB D isAgg27 hsz.out hld.out ?_);refine (xh D hlD.out h1D.out 1).mono ?_;rintro e w41 ⟨rfl, hb41⟩;dsimp only;obtain ⟨hs1, hs2, hzF⟩ := ku 1 (hz4.out.below hb41.out) hlD.out;clear hb41 hld;go_wp2_with (refine ws_ 27 (.tmp 4) (.tmp 24) RB D hsz.out h1D.out hs1 ?_);refine hi_ ?_;generalize (w41.setCells RB 0 D) = w42 at hzF hs2 ⊢;go_wp2_with (refine ws_ 35 (.tmp 5) (.tmp 25) OB (ocN 1) sizeOf35 (j5 1) hs2 ?_);refine hi_ ?_;generalize (w42.setCells OB 0 (ocN 1)) = w43 at hzF ⊢;clear hs1 hs2;go_wp2_with fail;refine rt_ RB OB D (ocN 1) (hzF.out.box 1 rfl).1 (hzF.out.box 0 rfl).1 hsz.out sizeOf35 ?_;exact qg.no hres.out hst.out hzF.out.bel
 have d1 : decide (q.op < 1) = false := aj c1;by_cases c2 : 10 < q.op
 ·have hres : Hid (lm m q = (m, ocE 1)) := hi_ (by rw [hap.out, dh (.inr (.inl c2))]);have d2 : decide (10 < q.op) = true := b_ c2;clear hap;go_upto_region 2 with fail;clear q0 q1 q9 c1 d1 c2 d2;have hld := hi_ (ld_ (hz4.out.box 3 rfl).1);go_wp2_with (refine wl_ 27 (.tmp 2) MB D isAgg27 hsz.out hld.out ?_);refine (xh D hlD.out h1D.out 1).mono ?_;rintro e w41 ⟨rfl, hb41⟩;dsimp only;obtain ⟨hs1, hs2, hzF⟩ := ku 1 (hz4.out.below hb41.out) hlD.out;clear hb41 hld;go_wp2_with (refine ws_ 27 (.tmp 4) (.tmp 24) RB D hsz.out h1D.out hs1 ?_);refine hi_ ?_;generalize (w41.setCells RB 0 D) = w42 at hzF hs2 ⊢;go_wp2_with (refine ws_ 35 (.tmp 5) (.tmp 25) OB (ocN 1) sizeOf35 (j5 1) hs2 ?_);refine hi_ ?_;generalize (w42.setCells OB 0 (ocN 1)) = w43 at hzF ⊢;clear hs1 hs2;go_wp2_with fail;refine rt_ RB OB D (ocN 1) (hzF.out.box 1 rfl).1 (hzF.out.box 0 rfl).1 hsz.out sizeOf35 ?_;exact qg.no hres.out hst.out hzF.out.bel
 have d2 : decide (10 < q.op) = false := aj c2;by_cases c3 : 64 < q.h_.length
 ·have hres : Hid (lm m q = (m, ocE 1)) := hi_ (by rw [hap.out, dh (.inr (.inr c3))]);have d3 : (64 : Int) < (q.h_.length : Int) := by omega
  have d4 : decide ((64 : Int) < (q.h_.length : Int)) = true := b_ d3;clear hap c3;go_upto_region 2 with fail;clear q0 q1 q9 c1 d1 c2 d2 d3 d4;have hld := hi_ (ld_ (hz4.out.box 3 rfl).1);go_wp2_with (refine wl_ 27 (.tmp 2) MB D isAgg27 hsz.out hld.out ?_);refine (xh D hlD.out h1D.out 1).mono ?_;rintro e w41 ⟨rfl, hb41⟩;dsimp only;obtain ⟨hs1, hs2, hzF⟩ := ku 1 (hz4.out.below hb41.out) hlD.out;clear hb41 hld;go_wp2_with (refine ws_ 27 (.tmp 4) (.tmp 24) RB D hsz.out h1D.out hs1 ?_);refine hi_ ?_;generalize (w41.setCells RB 0 D) = w42 at hzF hs2 ⊢;go_wp2_with (refine ws_ 35 (.tmp 5) (.tmp 25) OB (ocN 1) sizeOf35 (j5 1) hs2 ?_);refine hi_ ?_;generalize (w42.setCells OB 0 (ocN 1)) = w43 at hzF ⊢;clear hs1 hs2;go_wp2_with fail;refine rt_ RB OB D (ocN 1) (hzF.out.box 1 rfl).1 (hzF.out.box 0 rfl).1 hsz.out sizeOf35 ?_;exact qg.no hres.out hst.out hzF.out.bel
 have d3 : ¬ (64 : Int) < (q.h_.length : Int) := by omega
 have d4 : decide ((64 : Int) < (q.h_.length : Int)) = false := aj d3;have hap := hi_ (hap.out.trans (bq (fun h => by rcases h with h | h | h; exact c1 h; exact c2 h; exact c3 h)));clear c3;by_cases o1 : q.op = 1
 ·have e1 : (q.op == 1) = true := by rw [o1]; rfl
  have hres : Hid (lm m q = mf (r_ m q oc0)) := hi_ (by rw [hap.out, dh o1]);replace o1 := hi_ o1;clear hap;go_upto_region 4 with fail;clear q0 q1 q9 c1 c2 d1 d2 d3 d4 e1;obtain ⟨hRg, hOg, hL2⟩ := Ee hz4.out hL.out;have hqi2 := Bl hqi.out hz4.out.bel hRg hOg;have hcall := hi_ (Uo (W := Wd) (RB :: OB :: L) m q y D bs (Bl hst.out hz4.out.bel hRg hOg) hqi2 hL2 hr.out);have hld := hi_ (ld_ (hz4.out.box 3 rfl).1);have hlq := hi_ (ld_ (hz4.out.box 2 rfl).1);clear hRg hOg hL2 hqi2;go_wp2_with (first
   | refine wl_ 27 (.tmp 2) MB D isAgg27 hsz.out hld.out ?_
   | refine wl_ 41 (.tmp 3) QB (fq q y) isAgg41 sizeOf41 hlq.out ?_)
  refine hcall.out.mono ?_;rintro e w41 ⟨C, O, rfl, hC, hO, hb41⟩;dsimp only;obtain ⟨hs1, hs2, hzF, hCF, hOF, hszC, hszO, hC1, hO1⟩ := Co (hz4.out.below hb41.out) hC.out hO.out;clear hb41 hld hlq hcall hC hO;go_wp2_with (refine ws_ 27 (.tmp 4) (.tmp 32) RB C hszC.out hC1.out hs1 ?_);refine hi_ ?_;generalize (w41.setCells RB 0 C) = w42 at hzF hs2 hCF hOF ⊢;go_wp2_with (refine ws_ 35 (.tmp 5) (.tmp 33) OB O hszO.out hO1.out hs2 ?_);refine hi_ ?_;generalize (w42.setCells OB 0 O) = w43 at hzF hCF hOF ⊢;clear hs1 hs2;go_wp2_with fail;refine rt_ RB OB C O (hzF.out.box 1 rfl).1 (hzF.out.box 0 rfl).1 hszC.out hszO.out ?_;rw [hres.out];exact ⟨C, O, rfl, hCF, hOF, hi_ hzF.out.bel⟩
 have e1 : (q.op == 1) = false := cz.2 o1;have hap := hi_ (hap.out.trans (bq o1));obtain ⟨hbM, -⟩ := hz4.out.box 3 rfl;have x5 : Wd.cell? ⟨MB, 5, none⟩ = some (.int .u64 m.a_) := by rw [bc_ hbM 5, ai, hD.out]; rfl
 have f5 : Wd.frozen? ⟨MB, 5, none⟩ = false := bf_ hbM 5;clear hbM;by_cases o10 : q.op = 10
 ·have e10 : (q.op == 10) = true := by rw [o10]; rfl
  have hap := hi_ (hap.out.trans (dh o10));replace o10 := hi_ o10;replace o1 := hi_ o1;by_cases hx : m.a_ = 9223372036854775807
  ·have ex : ((m.a_ : Int) == 9223372036854775807) = true := (by rw [hx]; rfl);have hres : Hid (lm m q = (m, ocE 13)) := hi_ (by rw [hap.out, dh hx]);replace hx := hi_ hx;clear hap f5;go_upto_region 6 with fail;clear q0 q1 q9 c1 d1 c2 d2 d3 d4 e1 e10 ex x5;have hld := hi_ (ld_ (hz4.out.box 3 rfl).1);go_wp2_with (refine wl_ 27 (.tmp 2) MB D isAgg27 hsz.out hld.out ?_);refine (xh D hlD.out h1D.out 13).mono ?_;rintro e w41 ⟨rfl, hb41⟩;dsimp only;obtain ⟨hs1, hs2, hzF⟩ := ku 13 (hz4.out.below hb41.out) hlD.out;clear hb41 hld;go_wp2_with (refine ws_ 27 (.tmp 4) (.tmp 44) RB D hsz.out h1D.out hs1 ?_);refine hi_ ?_;generalize (w41.setCells RB 0 D) = w42 at hzF hs2 ⊢;go_wp2_with (refine ws_ 35 (.tmp 5) (.tmp 45) OB (ocN 13) sizeOf35 (j5 13) hs2 ?_);refine hi_ ?_;generalize (w42.setCells OB 0 (ocN 13)) = w43 at hzF ⊢;clear hs1 hs2;go_wp2_with fail;refine rt_ RB OB D (ocN 13) (hzF.out.box 1 rfl).1 (hzF.out.box 0 rfl).1 hsz.out sizeOf35 ?_;exact qg.no hres.out hst.out hzF.out.bel
  have ex : ((m.a_ : Int) == 9223372036854775807) = false := by rw [cz]; omega
  obtain ⟨s1, hs1⟩ : ∃ s1, s1 = m.a_ + 1 := ⟨_, rfl⟩;have hres : Hid (lm m q = ({ m with a_ := s1 }, oc0)) := hi_ (by rw [hap.out, bq hx, hs1]);have hw1 : IntKind.u64.wrap ((m.a_ : Int) + 1) = (s1 : Int) := by rw [qy _ (by have := hsw.out; omega), hs1]; rfl
  have hzS := hz4.out.il 3 rfl 5 (.int .u64 s1);replace hx := hi_ hx;replace hs1 := hi_ hs1;clear hap;go_upto_region 9 with fail;clear q0 q1 q9 c1 c2 d1 d2 d3 d4 e1 e10 ex x5 f5 hw1;generalize (Wd.setCell ⟨MB, 5, none⟩ (.int .u64 s1)) = w10 at hzS ⊢;obtain ⟨D2, hD2⟩ : ∃ D2 : List Value, D2 = D.set 5 (.int .u64 (s1 : Int)) := ⟨_, rfl⟩;have hst2 : Hid (jw (okL L) W fun x => xm x D2 { m with a_ := s1 } bs) := hi_ (hst.out.mono (fun x h => by rw [hD2]; exact h.hd_ s1));have hsh := hi_ hst2.out.now.shape;have hsz2 : Hid (∀ w, (Go.sizeOf 27).run prog w = .ok D2.length w) := hi_ (fun w => by rw [hsh.out.1]; exact sizeOf27 w);have hzT : Hid (Zoo W w10 [df OB ([.int .i64 0, .int .u64 0, .int .u64 0, .slice none 0 0, .slice none 0 0] : List Value).toArray 35, df RB ([.slice none 0 0, .int .u64 0, .slice none 0 0, .slice none 0 0, .int .u64 0, .int .u64 0] : List Value).toArray 27, df QB (fq q y).toArray 41, df MB D2.toArray 27]) := hi_ (by rw [hD2]; exact hzS);replace hD2 := hi_ hD2;clear hzS;obtain ⟨hbM, -⟩ := hzT.out.box 3 rfl;have hld := hi_ (fun j v (hj : D2[j]? = some v) => (show w10.cell? ⟨MB, 0 + j, none⟩ = some v by rw [di, bc_ hbM j, ai]; exact hj));have hs1 := hzT.out.m_ 1 rfl;have hs1' := hi_ (bu (fun j (hj : j < D2.length) => hs1.1 j (by rw [hsh.out.1] at hj; exact hj)) hs1.2);have hz42 := hzT.out.mq 1 rfl D2 hsh.out.1;have hs2 := hi_ (hz42.m_ 0 rfl);have hzF := hi_ (hz42.mq 0 rfl (ocN 0) rfl);clear hbM hs1 hz42;go_wp2_with (first
   | refine Dk rfl 27 (.tmp 2) rfl MB 0 D2 (by rfl) isAgg27 hsz2.out hld.out ?_
   | (refine ru rfl 27 (.tmp 4) (.tmp 53) rfl RB 0 D2 (by rfl) (by rfl) hsz2.out hsh.out.2 hs1'.out.1 hs1'.out.2 ?_; refine Ae ?_))
  refine hi_ ?_;generalize (w10.setCells RB 0 D2) = w42 at hzF hs2 ⊢;go_wp2_with (refine ru rfl 35 (.tmp 5) (.tmp 54) rfl OB 0 (ocN 0) (by rfl) (by rfl) sizeOf35 (j5 0) hs2.out.1 hs2.out.2 ?_; refine Ae ?_);refine hi_ ?_;generalize (w42.setCells OB 0 (ocN 0)) = w43 at hzF ⊢;clear hs1' hs2 hld;go_wp2_with fail;refine bodyPost_ret (Da rfl _ _ RB OB D2 (ocN 0) rfl rfl (hzF.out.box 1 rfl).1 (hzF.out.box 0 rfl).1 isAgg27 hsz2.out isAgg35 sizeOf35) rfl ?_;rw [hres.out];exact ⟨D2, ocN 0, rfl, hi_ ((hst2.out.mono (fun _ h => h.ml)).below hzF.out.bel), hi_ (fun w _ => Tc w 0), hi_ hzF.out.bel⟩
 have e10 : (q.op == 10) = false := cz.2 o10;have hap := hi_ (hap.out.trans (bq o10));have hlast := hi_ (Uq (W := Wd) D as_ cs m.seats q.session (by rw [hD.out]; rfl) (his0.out _ hz4.out.bel) (by omega));clear f5;obtain ⟨hbM, -⟩ := hz4.out.box 3 rfl;have hld := hi_ (fun j v (hj : D[j]? = some v) => (show Wd.cell? ⟨MB, 0 + j, none⟩ = some v by rw [di, bc_ hbM j, ai]; exact hj));clear hbM;go_wp2_with (refine Dk rfl 27 (.tmp 2) rfl MB 0 D (by rfl) isAgg27 hsz.out hld.out ?_);refine hlast.out.mono ?_;rintro e w5 ⟨rfl, hb5⟩;dsimp only;have hz5 := hi_ (hz4.out.below hb5.out);clear hlast hld x5 q0 q1 q9 d1 d2 d3 d4 e1 e10 hb5;cases hfi : m.seats.find? (fun x => x.session == q.session) with
 | none =>
  have hres : Hid (lm m q = (m, ocE 16)) := hi_ (by rw [hap.out, hfi]);clear hap hfi;go_upto_region 12 with fail;clear c1 c2;have hld := hi_ (ld_ (hz5.out.box 3 rfl).1);go_wp2_with (refine wl_ 27 (.tmp 2) MB D isAgg27 hsz.out hld.out ?_);refine (xh D hlD.out h1D.out 16).mono ?_;rintro e w41 ⟨rfl, hb41⟩;dsimp only;obtain ⟨hs1, hs2, hzF⟩ := ku 16 (hz5.out.below hb41.out) hlD.out;clear hb41 hld;go_wp2_with (refine ws_ 27 (.tmp 4) (.tmp 66) RB D hsz.out h1D.out hs1 ?_);refine hi_ ?_;generalize (w41.setCells RB 0 D) = w42 at hzF hs2 ⊢;go_wp2_with (refine ws_ 35 (.tmp 5) (.tmp 67) OB (ocN 16) sizeOf35 (j5 16) hs2 ?_);refine hi_ ?_;generalize (w42.setCells OB 0 (ocN 16)) = w43 at hzF ⊢;clear hs1 hs2;go_wp2_with fail;refine rt_ RB OB D (ocN 16) (hzF.out.box 1 rfl).1 (hzF.out.box 0 rfl).1 hsz.out sizeOf35 ?_;exact qg.no hres.out hst.out hzF.out.bel
 | some x =>
  have hap : Hid (lm m q = if q.number ≤ x.last then (m, ocE 14) else Ig (rf m q) q) := hi_ (by rw [hap.out, hfi]);obtain ⟨hbQ, -⟩ := hz5.out.box 2 rfl;have q0 : w5.cell? ⟨QB, 0, none⟩ = some (.int .i64 q.op) := bc_ hbQ 0;have q1 : w5.cell? ⟨QB, 1, none⟩ = some (.int .u64 q.session) := bc_ hbQ 1;have q2 : w5.cell? ⟨QB, 2, none⟩ = some (.int .u64 q.number) := bc_ hbQ 2;clear hbQ;by_cases hl : q.number ≤ x.last
  ·have hres : Hid (lm m q = (m, ocE 14)) := hi_ (by rw [hap.out, dh hl]);have d5 : (q.number : Int) ≤ (x.last : Int) := (by omega);have d6 : decide ((q.number : Int) ≤ (x.last : Int)) = true := b_ d5;clear hap hfi hl;go_upto_region 14 with fail;clear q0 q1 q2 d5 d6 c1 c2;have hld := hi_ (ld_ (hz5.out.box 3 rfl).1);go_wp2_with (refine wl_ 27 (.tmp 2) MB D isAgg27 hsz.out hld.out ?_);refine (xh D hlD.out h1D.out 14).mono ?_;rintro e w41 ⟨rfl, hb41⟩;dsimp only;obtain ⟨hs1, hs2, hzF⟩ := ku 14 (hz5.out.below hb41.out) hlD.out;clear hb41 hld;go_wp2_with (refine ws_ 27 (.tmp 4) (.tmp 74) RB D hsz.out h1D.out hs1 ?_);refine hi_ ?_;generalize (w41.setCells RB 0 D) = w42 at hzF hs2 ⊢;go_wp2_with (refine ws_ 35 (.tmp 5) (.tmp 75) OB (ocN 14) sizeOf35 (j5 14) hs2 ?_);refine hi_ ?_;generalize (w42.setCells OB 0 (ocN 14)) = w43 at hzF ⊢;clear hs1 hs2;go_wp2_with fail;refine rt_ RB OB D (ocN 14) (hzF.out.box 1 rfl).1 (hzF.out.box 0 rfl).1 hsz.out sizeOf35 ?_;exact qg.no hres.out hst.out hzF.out.bel
  have d5 : ¬ (q.number : Int) ≤ (x.last : Int) := by omega
  have d6 : decide ((q.number : Int) ≤ (x.last : Int)) = false := aj d5;have hap := hi_ (hap.out.trans (bq hl));obtain ⟨gone, hgone⟩ : ∃ gone, (q.op == 2) = gone := ⟨_, rfl⟩;have hgo := hi_ hgone;have hseats := hi_ (Qk (W := w5) D ab ah as_ bs.length cb m.nv m.homes.length ch cs m.ns m.a_ m.seats q.session q.number gone hD.out (his0.out _ hz5.out.bel) (by omega));obtain ⟨hbM, -⟩ := hz5.out.box 3 rfl;have hld := hi_ (fun j v (hj : D[j]? = some v) => (show w5.cell? ⟨MB, 0 + j, none⟩ = some v by rw [di, bc_ hbM j, ai]; exact hj));replace hl := hi_ hl;replace hfi := hi_ hfi;clear hbM;go_wp2_with (refine Dk rfl 27 (.tmp 2) rfl MB 0 D (by rfl) isAgg27 hsz.out hld.out ?_);refine hseats.out.mono ?_;rintro e w6 ⟨aL, cL, rfl, hSS, hb6⟩;dsimp only;have hz6 := hz5.out.below hb6.out;have hRg := (hz5.out.box 1 rfl).2;have hOg := (hz5.out.box 0 rfl).2;have hMg := (hz5.out.box 3 rfl).2;have hRl := hz5.out.yu 1 rfl;have hOl := hz5.out.yu 0 rfl;have hMl := hz5.out.yu 3 rfl;generalize hsl : (qo q.session q.number gone m.seats).length = sl at hSS ⊢;obtain ⟨D2, hD2⟩ : ∃ D2 : List Value, D2 = D.set 3 (.slice aL sl cL) := ⟨_, rfl⟩;rw [← hD2];have hz5b := hz5.out.bel;have hst2 : Hid (jw (okL (RB :: OB :: L)) (w6.setCells MB 0 D2) fun x => xm x D2 (rf m q) bs) := hi_ (by
   have hA := ((Bl hst.out (hz6.bel) hRg hOg));have hA2 : jw (okL (MB :: RB :: OB :: L)) w6 fun x => xm x D m bs := fun x hx => hst.out x (fun k hk hkl => (hx k (fun b hb' => by
    rcases d_.1 hb' with rfl | hb'
    ·omega
    rcases d_.1 hb' with rfl | hb'
    ·omega
    rcases d_.1 hb' with rfl | hb'
    ·omega
    exact hk b hb') (gy hkl hz6.bel.size)).trans (hz6.bel.block k hkl))
   have hB2 : jw (okL (MB :: RB :: OB :: L)) w6 (fun x => z_ x (.slice aL sl cL) (qo q.session q.number gone m.seats)) := hSS.out.okL (fun b hb' => by
    rcases d_.1 hb' with rfl | hb'
    ·exact hMl
    rcases d_.1 hb' with rfl | hb'
    ·exact hRl
    rcases d_.1 hb' with rfl | hb'
    ·exact hOl
    exact gy (hL.out b hb') hz5b.size)
   have hA3 := hA2.Ev (B := MB) (by simp) D2;have hB3 := hB2.Ev (B := MB) (by simp) D2;refine jw.Ib (L := MB :: RB :: OB :: L) (fun x hx => ?_) (fun b hb' => by simp only [d_] at hb' ⊢; exact .inr hb');have h1 := hA3 x hx;have h2 := hB3 x hx;rw [← hsl] at h2;rw [hD2, ← hsl];have h3 := h1.seat h2;unfold rf;rw [hgo.out];exact h3)
  have hsh : Hid (D2.length = 6 ∧ ∀ v ∈ D2, v.oneCell' = true) := hi_ hst2.out.now.shape;have hsz2 : Hid (∀ w, (Go.sizeOf 27).run prog w = .ok D2.length w) := hi_ (fun w => by rw [hsh.out.1]; exact sizeOf27 w);have hs1 := hz6.m_ 3 rfl;have hs1' := hi_ (bu (fun j (hj : j < D2.length) => hs1.1 j (by rw [hsh.out.1] at hj; rw [hlD.out]; exact hj)) hs1.2);have hzS := hi_ (hz6.mq 3 rfl D2 (by rw [hsh.out.1, hlD.out]));replace hsl := hi_ hsl;replace hD2 := hi_ hD2;clear hld hseats hb6 hz6 hs1 hRg hOg hMg hRl hOl hMl hSS hz5b q0 q1 q2 d5 d6 hgone;go_wp2_with (refine ru rfl 27 (.tmp 2) (.tmp 84) rfl MB 0 D2 (by rfl) (by rfl) hsz2.out hsh.out.2 hs1'.out.1 hs1'.out.2 ?_; refine Ae ?_);refine hi_ ?_;generalize (w6.setCells MB 0 D2) = w7 at hzS hst2 ⊢;clear hs1' hz5;obtain ⟨hbQ, -⟩ := hzS.out.box 2 rfl;have q0 : w7.cell? ⟨QB, 0, none⟩ = some (.int .i64 q.op) := bc_ hbQ 0;clear hbQ c1 c2;have hr2 : Hid (q.op ≠ 2 → jq (rf m q)) := hi_ (fun h2 => by
   have hf : ∃ i, m.seats.findIdx? (fun x => x.session == q.session) = some i := by
    cases hf : m.seats.findIdx? (fun x => x.session == q.session) with
    | some i => exact ⟨i, rfl⟩
    | none =>
     have h3 := l8.1 hf x (rz hfi.out);have h4 := Dv hfi.out;rw [h3] at h4; cases h4
   obtain ⟨i, hi⟩ := hf;exact Qi hr.out q i hi h2)
  clear hfi hl hgo;by_cases oK : q.op = 4
  ·have e4 : (q.op == 4) = true := (by rw [oK]; rfl);have hres : Hid (lm m q = mf (nk (rf m q) q oc0)) := hi_ (by rw [hap.out]; unfold Ig; rw [dh oK]);replace oK := hi_ oK;clear hap;go_upto_region 18 with fail;clear q0 e4;obtain ⟨hRg, hOg, hL2⟩ := Ee hzS.out hL.out;have hqi2 := Bl hqi.out hzS.out.bel hRg hOg;have hcall := hi_ (Qo (W := w7) (RB :: OB :: L) (rf m q) q y D2 bs hst2.out hqi2 hL2 (hr2.out (by rw [oK.out]; decide)) hq.out.box);have hld := hi_ (ld_ (hzS.out.box 3 rfl).1);have hlq := hi_ (ld_ (hzS.out.box 2 rfl).1);clear hRg hOg hL2 hqi2;go_wp2_with (first
    | refine wl_ 27 (.tmp 2) MB D2 isAgg27 hsz2.out hld.out ?_
    | refine wl_ 41 (.tmp 3) QB (fq q y) isAgg41 sizeOf41 hlq.out ?_)
   refine hcall.out.mono ?_;rintro e w41 ⟨C, O, rfl, hC, hO, hb41⟩;dsimp only;obtain ⟨hs1, hs2, hzF, hCF, hOF, hszC, hszO, hC1, hO1⟩ := Co (hzS.out.below hb41.out) hC.out hO.out;clear hb41 hld hlq hcall hC hO;go_wp2_with (refine ws_ 27 (.tmp 4) (.tmp 92) RB C hszC.out hC1.out hs1 ?_);refine hi_ ?_;generalize (w41.setCells RB 0 C) = w42 at hzF hs2 hCF hOF ⊢;go_wp2_with (refine ws_ 35 (.tmp 5) (.tmp 93) OB O hszO.out hO1.out hs2 ?_);refine hi_ ?_;generalize (w42.setCells OB 0 O) = w43 at hzF hCF hOF ⊢;clear hs1 hs2;go_wp2_with fail;refine rt_ RB OB C O (hzF.out.box 1 rfl).1 (hzF.out.box 0 rfl).1 hszC.out hszO.out ?_;rw [hres.out];exact ⟨C, O, rfl, hCF, hOF, hi_ hzF.out.bel⟩
  have o4 := oK;clear oK;by_cases oK : q.op = 5
  ·have e4 : (q.op == 4) = false := (by rw [oK]; rfl);have e5 : (q.op == 5) = true := (by rw [oK]; rfl);have hres : Hid (lm m q = mf (uo (rf m q) q oc0)) := hi_ (by rw [hap.out]; unfold Ig; rw [bq (show ¬ q.op = 4 by omega), dh oK]);replace oK := hi_ oK;clear hap;try clear o4
   go_upto_region 20 with fail;clear q0 e4 e5;obtain ⟨hRg, hOg, hL2⟩ := Ee hzS.out hL.out;have hqi2 := Bl hqi.out hzS.out.bel hRg hOg;have hcall := hi_ (Qn (W := w7) (RB :: OB :: L) (rf m q) q y D2 bs hst2.out hqi2 hL2 (by have h := hr.out.lb; show m.boxes.length ≤ 1000; omega));have hld := hi_ (ld_ (hzS.out.box 3 rfl).1);have hlq := hi_ (ld_ (hzS.out.box 2 rfl).1);clear hRg hOg hL2 hqi2;go_wp2_with (first
    | refine wl_ 27 (.tmp 2) MB D2 isAgg27 hsz2.out hld.out ?_
    | refine wl_ 41 (.tmp 3) QB (fq q y) isAgg41 sizeOf41 hlq.out ?_)
   refine hcall.out.mono ?_;rintro e w41 ⟨C, O, rfl, hC, hO, hb41⟩;dsimp only;obtain ⟨hs1, hs2, hzF, hCF, hOF, hszC, hszO, hC1, hO1⟩ := Co (hzS.out.below hb41.out) hC.out hO.out;clear hb41 hld hlq hcall hC hO;go_wp2_with (refine ws_ 27 (.tmp 4) (.tmp 99) RB C hszC.out hC1.out hs1 ?_);refine hi_ ?_;generalize (w41.setCells RB 0 C) = w42 at hzF hs2 hCF hOF ⊢;go_wp2_with (refine ws_ 35 (.tmp 5) (.tmp 100) OB O hszO.out hO1.out hs2 ?_);refine hi_ ?_;generalize (w42.setCells OB 0 O) = w43 at hzF hCF hOF ⊢;clear hs1 hs2;go_wp2_with fail;refine rt_ RB OB C O (hzF.out.box 1 rfl).1 (hzF.out.box 0 rfl).1 hszC.out hszO.out ?_;rw [hres.out];exact ⟨C, O, rfl, hCF, hOF, hi_ hzF.out.bel⟩
  have o5 := oK;clear oK;by_cases oK : q.op = 6
  ·have e4 : (q.op == 4) = false := (by rw [oK]; rfl);have e5 : (q.op == 5) = false := (by rw [oK]; rfl);have e6 : (q.op == 6) = true := (by rw [oK]; rfl);have hres : Hid (lm m q = mf (lq (rf m q) q oc0)) := hi_ (by rw [hap.out]; unfold Ig; rw [bq (show ¬ q.op = 4 by omega), bq (show ¬ q.op = 5 by omega), dh oK]);replace oK := hi_ oK;clear hap;try clear o4
   try clear o5
   go_upto_region 22 with fail;clear q0 e4 e5 e6;obtain ⟨hRg, hOg, hL2⟩ := Ee hzS.out hL.out;have hqi2 := Bl hqi.out hzS.out.bel hRg hOg;have hcall := hi_ (Ot (W := w7) (RB :: OB :: L) (rf m q) q y D2 bs hst2.out hqi2 hL2 (hr2.out (by rw [oK.out]; decide)) hq.out.sz);have hld := hi_ (ld_ (hzS.out.box 3 rfl).1);have hlq := hi_ (ld_ (hzS.out.box 2 rfl).1);clear hRg hOg hL2 hqi2;go_wp2_with (first
    | refine wl_ 27 (.tmp 2) MB D2 isAgg27 hsz2.out hld.out ?_
    | refine wl_ 41 (.tmp 3) QB (fq q y) isAgg41 sizeOf41 hlq.out ?_)
   refine hcall.out.mono ?_;rintro e w41 ⟨C, O, rfl, hC, hO, hb41⟩;dsimp only;obtain ⟨hs1, hs2, hzF, hCF, hOF, hszC, hszO, hC1, hO1⟩ := Co (hzS.out.below hb41.out) hC.out hO.out;clear hb41 hld hlq hcall hC hO;go_wp2_with (refine ws_ 27 (.tmp 4) (.tmp 106) RB C hszC.out hC1.out hs1 ?_);refine hi_ ?_;generalize (w41.setCells RB 0 C) = w42 at hzF hs2 hCF hOF ⊢;go_wp2_with (refine ws_ 35 (.tmp 5) (.tmp 107) OB O hszO.out hO1.out hs2 ?_);refine hi_ ?_;generalize (w42.setCells OB 0 O) = w43 at hzF hCF hOF ⊢;clear hs1 hs2;go_wp2_with fail;refine rt_ RB OB C O (hzF.out.box 1 rfl).1 (hzF.out.box 0 rfl).1 hszC.out hszO.out ?_;rw [hres.out];exact ⟨C, O, rfl, hCF, hOF, hi_ hzF.out.bel⟩
  have o6 := oK;clear oK;by_cases oK : q.op = 7
  ·have e4 : (q.op == 4) = false := (by rw [oK]; rfl);have e5 : (q.op == 5) = false := (by rw [oK]; rfl);have e6 : (q.op == 6) = false := (by rw [oK]; rfl);have e7 : (q.op == 7) = true := (by rw [oK]; rfl);have hres : Hid (lm m q = mf (pg (rf m q) q oc0)) := hi_ (by rw [hap.out]; unfold Ig; rw [bq (show ¬ q.op = 4 by omega), bq (show ¬ q.op = 5 by omega), bq (show ¬ q.op = 6 by omega), dh oK]);replace oK := hi_ oK;clear hap;try clear o4
   try clear o5
   try clear o6
   go_upto_region 24 with fail;clear q0 e4 e5 e6 e7;obtain ⟨hRg, hOg, hL2⟩ := Ee hzS.out hL.out;have hqi2 := Bl hqi.out hzS.out.bel hRg hOg;have hcall := hi_ (Sy (W := w7) (RB :: OB :: L) (rf m q) q y D2 bs hst2.out hqi2 hL2 (hr2.out (by rw [oK.out]; decide)) hq.out.sz);have hld := hi_ (ld_ (hzS.out.box 3 rfl).1);have hlq := hi_ (ld_ (hzS.out.box 2 rfl).1);clear hRg hOg hL2 hqi2;go_wp2_with (first
    | refine wl_ 27 (.tmp 2) MB D2 isAgg27 hsz2.out hld.out ?_
    | refine wl_ 41 (.tmp 3) QB (fq q y) isAgg41 sizeOf41 hlq.out ?_)
   refine hcall.out.mono ?_;rintro e w41 ⟨C, O, rfl, hC, hO, hb41⟩;dsimp only;obtain ⟨hs1, hs2, hzF, hCF, hOF, hszC, hszO, hC1, hO1⟩ := Co (hzS.out.below hb41.out) hC.out hO.out;clear hb41 hld hlq hcall hC hO;go_wp2_with (refine ws_ 27 (.tmp 4) (.tmp 113) RB C hszC.out hC1.out hs1 ?_);refine hi_ ?_;generalize (w41.setCells RB 0 C) = w42 at hzF hs2 hCF hOF ⊢;go_wp2_with (refine ws_ 35 (.tmp 5) (.tmp 114) OB O hszO.out hO1.out hs2 ?_);refine hi_ ?_;generalize (w42.setCells OB 0 O) = w43 at hzF hCF hOF ⊢;clear hs1 hs2;go_wp2_with fail;refine rt_ RB OB C O (hzF.out.box 1 rfl).1 (hzF.out.box 0 rfl).1 hszC.out hszO.out ?_;rw [hres.out];exact ⟨C, O, rfl, hCF, hOF, hi_ hzF.out.bel⟩
  have o7 := oK;clear oK;by_cases oK : q.op = 8
  ·have e4 : (q.op == 4) = false := (by rw [oK]; rfl);have e5 : (q.op == 5) = false := (by rw [oK]; rfl);have e6 : (q.op == 6) = false := (by rw [oK]; rfl);have e7 : (q.op == 7) = false := (by rw [oK]; rfl);have e8 : (q.op == 8) = true := (by rw [oK]; rfl);have hres : Hid (lm m q = mf (oh (rf m q) q oc0)) := hi_ (by rw [hap.out]; unfold Ig; rw [bq (show ¬ q.op = 4 by omega), bq (show ¬ q.op = 5 by omega), bq (show ¬ q.op = 6 by omega), bq (show ¬ q.op = 7 by omega), dh oK]);replace oK := hi_ oK;clear hap;try clear o4
   try clear o5
   try clear o6
   try clear o7
   go_upto_region 26 with fail;clear q0 e4 e5 e6 e7 e8;obtain ⟨hRg, hOg, hL2⟩ := Ee hzS.out hL.out;have hqi2 := Bl hqi.out hzS.out.bel hRg hOg;have hcall := hi_ (Oo (W := w7) (RB :: OB :: L) (rf m q) q y D2 bs hst2.out hqi2 hL2 (hr2.out (by rw [oK.out]; decide)) hq.out.sz);have hld := hi_ (ld_ (hzS.out.box 3 rfl).1);have hlq := hi_ (ld_ (hzS.out.box 2 rfl).1);clear hRg hOg hL2 hqi2;go_wp2_with (first
    | refine wl_ 27 (.tmp 2) MB D2 isAgg27 hsz2.out hld.out ?_
    | refine wl_ 41 (.tmp 3) QB (fq q y) isAgg41 sizeOf41 hlq.out ?_)
   refine hcall.out.mono ?_;rintro e w41 ⟨C, O, rfl, hC, hO, hb41⟩;dsimp only;obtain ⟨hs1, hs2, hzF, hCF, hOF, hszC, hszO, hC1, hO1⟩ := Co (hzS.out.below hb41.out) hC.out hO.out;clear hb41 hld hlq hcall hC hO;go_wp2_with (refine ws_ 27 (.tmp 4) (.tmp 120) RB C hszC.out hC1.out hs1 ?_);refine hi_ ?_;generalize (w41.setCells RB 0 C) = w42 at hzF hs2 hCF hOF ⊢;go_wp2_with (refine ws_ 35 (.tmp 5) (.tmp 121) OB O hszO.out hO1.out hs2 ?_);refine hi_ ?_;generalize (w42.setCells OB 0 O) = w43 at hzF hCF hOF ⊢;clear hs1 hs2;go_wp2_with fail;refine rt_ RB OB C O (hzF.out.box 1 rfl).1 (hzF.out.box 0 rfl).1 hszC.out hszO.out ?_;rw [hres.out];exact ⟨C, O, rfl, hCF, hOF, hi_ hzF.out.bel⟩
  have o8 := oK;clear oK;by_cases oK : q.op = 9
  ·have e4 : (q.op == 4) = false := (by rw [oK]; rfl);have e5 : (q.op == 5) = false := (by rw [oK]; rfl);have e6 : (q.op == 6) = false := (by rw [oK]; rfl);have e7 : (q.op == 7) = false := (by rw [oK]; rfl);have e8 : (q.op == 8) = false := (by rw [oK]; rfl);have e9 : (q.op == 9) = true := (by rw [oK]; rfl);have hres : Hid (lm m q = mf (uw (rf m q) q oc0)) := hi_ (by rw [hap.out]; unfold Ig; rw [bq (show ¬ q.op = 4 by omega), bq (show ¬ q.op = 5 by omega), bq (show ¬ q.op = 6 by omega), bq (show ¬ q.op = 7 by omega), bq (show ¬ q.op = 8 by omega), dh oK]);replace oK := hi_ oK;clear hap;try clear o4
   try clear o5
   try clear o6
   try clear o7
   try clear o8
   go_upto_region 28 with fail;clear q0 e4 e5 e6 e7 e8 e9;obtain ⟨hRg, hOg, hL2⟩ := Ee hzS.out hL.out;have hqi2 := Bl hqi.out hzS.out.bel hRg hOg;have hcall := hi_ (Qp (W := w7) (RB :: OB :: L) (rf m q) q y D2 bs hst2.out hqi2 hL2 (hr2.out (by rw [oK.out]; decide)) hq.out.sz);have hld := hi_ (ld_ (hzS.out.box 3 rfl).1);have hlq := hi_ (ld_ (hzS.out.box 2 rfl).1);clear hRg hOg hL2 hqi2;go_wp2_with (first
    | refine wl_ 27 (.tmp 2) MB D2 isAgg27 hsz2.out hld.out ?_
    | refine wl_ 41 (.tmp 3) QB (fq q y) isAgg41 sizeOf41 hlq.out ?_)
   refine hcall.out.mono ?_;rintro e w41 ⟨C, O, rfl, hC, hO, hb41⟩;dsimp only;obtain ⟨hs1, hs2, hzF, hCF, hOF, hszC, hszO, hC1, hO1⟩ := Co (hzS.out.below hb41.out) hC.out hO.out;clear hb41 hld hlq hcall hC hO;go_wp2_with (refine ws_ 27 (.tmp 4) (.tmp 127) RB C hszC.out hC1.out hs1 ?_);refine hi_ ?_;generalize (w41.setCells RB 0 C) = w42 at hzF hs2 hCF hOF ⊢;go_wp2_with (refine ws_ 35 (.tmp 5) (.tmp 128) OB O hszO.out hO1.out hs2 ?_);refine hi_ ?_;generalize (w42.setCells OB 0 O) = w43 at hzF hCF hOF ⊢;clear hs1 hs2;go_wp2_with fail;refine rt_ RB OB C O (hzF.out.box 1 rfl).1 (hzF.out.box 0 rfl).1 hszC.out hszO.out ?_;rw [hres.out];exact ⟨C, O, rfl, hCF, hOF, hi_ hzF.out.bel⟩
  have o9 := oK;clear oK;have e4 : (q.op == 4) = false := cz.2 o4;have e5 : (q.op == 5) = false := cz.2 o5;have e6 : (q.op == 6) = false := cz.2 o6;have e7 : (q.op == 7) = false := cz.2 o7;have e8 : (q.op == 8) = false := cz.2 o8;have e9 : (q.op == 9) = false := cz.2 o9;have hres : Hid (lm m q = (rf m q, oc0)) := hi_ (by rw [hap.out]; unfold Ig; rw [bq o4, bq o5, bq o6, bq o7, bq o8, bq o9]);clear hap o4 o5 o6 o7 o8 o9;go_upto_region 29 with fail;clear q0 e4 e5 e6 e7 e8 e9;obtain ⟨hbM, -⟩ := hzS.out.box 3 rfl;have hld := hi_ (fun j v (hj : D2[j]? = some v) => (show w7.cell? ⟨MB, 0 + j, none⟩ = some v by rw [di, bc_ hbM j, ai]; exact hj));have hs1 := hzS.out.m_ 1 rfl;have hs1' := hi_ (bu (fun j (hj : j < D2.length) => hs1.1 j (by rw [hsh.out.1] at hj; exact hj)) hs1.2);have hz42 := hzS.out.mq 1 rfl D2 hsh.out.1;have hs2 := hi_ (hz42.m_ 0 rfl);have hzF := hi_ (hz42.mq 0 rfl (ocN 0) rfl);have hstF := hi_ (((((hst2.out.mono (fun _ h => h.ml)).Ev (B := RB) (by simp) D2).Ev (B := OB) (by simp) (ocN 0))).Ib (L' := L) (fun b hb => by simp [hb]));clear hbM hs1 hz42;go_wp2_with (first
   | refine Dk rfl 27 (.tmp 2) rfl MB 0 D2 (by rfl) isAgg27 hsz2.out hld.out ?_
   | (refine ru rfl 27 (.tmp 4) (.tmp 129) rfl RB 0 D2 (by rfl) (by rfl) hsz2.out hsh.out.2 hs1'.out.1 hs1'.out.2 ?_; refine Ae ?_))
  refine hi_ ?_;generalize (w7.setCells RB 0 D2) = w42 at hzF hs2 hstF ⊢;go_wp2_with (refine ru rfl 35 (.tmp 5) (.tmp 130) rfl OB 0 (ocN 0) (by rfl) (by rfl) sizeOf35 (j5 0) hs2.out.1 hs2.out.2 ?_; refine Ae ?_);refine hi_ ?_;generalize (w42.setCells OB 0 (ocN 0)) = w43 at hzF hstF ⊢;clear hs1' hs2 hld;go_wp2_with fail;refine bodyPost_ret (Da rfl _ _ RB OB D2 (ocN 0) rfl rfl (hzF.out.box 1 rfl).1 (hzF.out.box 0 rfl).1 isAgg27 hsz2.out isAgg35 sizeOf35) rfl ?_;rw [hres.out];exact ⟨D2, ocN 0, rfl, hi_ (hstF.out), hi_ (fun w _ => Tc w 0), hi_ hzF.out.bel⟩
end
end Go.Proofs.YtdobbfjmlnlieaaGreat
