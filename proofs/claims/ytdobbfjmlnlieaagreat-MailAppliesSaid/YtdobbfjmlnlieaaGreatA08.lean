/- expunge: walked; copy: what it computes; steps of its walk; flag; store: what it computes: plain -/
import Derived.Test.YtdobbfjmlnlieaaGreatA01
import Derived.Test.YtdobbfjmlnlieaaGreatA07
import Derived.Laws.EntriesVeiled
namespace Go.Proofs.YtdobbfjmlnlieaaGreat
set_option linter.unusedSimpArgs false
namespace Tryz
end Tryz
open Go.Proofs.Tryz Go.Proofs.YtdobbfjmlnlieaaGreat.Tryz
section
open Go.RowKit
attribute [local go_sem ↓] Go.wp_at_zero Go.wp_at_succ
def Jb (c d wb most : Nat) : Th := ⟨fun F W => (W.heap[c]? = some (.cells #[.pointer (some ⟨wb, 0, none⟩)] 77 (0, 0)) ∧ W.heap[d]? = some (.cells #[.int .u64 most] 23 (0, 0))) ∧ ∀ k, F k ↔ (k = c ∨ k = d),
 fun F W h k hk => by
  rcases (h.2 k).1 hk with rfl | rfl
  ·exact (bv.1 h.1.1).1
  exact (bv.1 h.1.2).1,
 fun F W W' h hk => ⟨⟨(hk c ((h.2 c).2 (.inl rfl))).trans h.1.1, (hk d ((h.2 d).2 (.inr rfl))).trans h.1.2⟩, h.2⟩⟩
theorem Zoo.cap {W0 W W' : World} {L : List Th} {c d wb most : Nat} (h : Zoo W0 W L) (hc : W'.heap[c]? = some (.cells #[.pointer (some ⟨wb, 0, none⟩)] 77 (0, 0)) ∧ W'.heap[d]? = some (.cells #[.int .u64 most] 23 (0, 0)) ∧ W.heap.size ≤ c ∧ W.heap.size ≤ d ∧ c ≠ d) (hb : Below W.heap.size W W') : Zoo W0 W' (Jb c d wb most :: L) :=
 h.more hb _ (fun k => k = c ∨ k = d) ⟨⟨hc.1, hc.2.1⟩, fun _ => j6⟩ (fun k hk => by
  rcases hk with rfl | rfl
  ·exact hc.2.2.1
  exact hc.2.2.2.1)
theorem Zoo.capOf {W0 W : World} {L : List Th} {c d wb most : Nat} (h : Zoo W0 W L) (i : Nat) (hi : L[i]? = some (Jb c d wb most)) : W.cell? ⟨c, 0, none⟩ = some (.pointer (some ⟨wb, 0, none⟩)) ∧ W.cell? ⟨d, 0, none⟩ = some (.int .u64 most) := by
 obtain ⟨F, ⟨⟨h1, h2⟩, -⟩, -⟩ := h.get i _ hi;exact ⟨Kt h1 0, Kt h2 0⟩
def Lj (c d : Nat) : Value := .func (.func 123) #[] #[.pointer (some ⟨c, 0, none⟩), .pointer (some ⟨d, 0, none⟩)]
def Di (l : List Lt) (q : Rq) : List Nat := (l.filter (Ad l q)).map Lt.uid
def oh (m : Ml) (q : Rq) (o : Oc) : Int × Ml × Oc := match uf m q with
 | none => (6, m, o)
 | some i => match m.boxes[i]? with
  | none => (6, m, o)
  | some b =>
   if o.h_ ++ Di b.letters q = [] then (0, m, { o with h_ := o.h_ ++ Di b.letters q })
   else if 9223372036854775807 ≤ b.high then (13, m, { o with h_ := o.h_ ++ Di b.letters q })
   else (0, qj m i { b with high := b.high + 1, letters := b.letters.filter (fun x => !Ad b.letters q x) }, { o with h_ := o.h_ ++ Di b.letters q })
def yf (l : List Lt) (q : Rq) (j : Nat) : List Nat := ((l.take j).filter (Ad l q)).map Lt.uid
theorem bg_ {l : List Lt} {q : Rq} {j : Nat} (h : j < l.length) (hg : Ad l q l[j] = false) : yf l q (j + 1) = yf l q j := by
 unfold yf;rw [ak h, kv];simp [hg]
theorem Ya {l : List Lt} {q : Rq} {j : Nat} (h : j < l.length) (hg : Ad l q l[j] = true) : yf l q (j + 1) = yf l q j ++ [l[j].uid] := by
 unfold yf;rw [ak h, kv];simp [hg]
theorem Yb (l : List Lt) (q : Rq) (j : Nat) : (yf l q j).length ≤ l.length := by
 unfold yf;rw [az];exact ed (lw _ _) (by rw [bf]; omega)
theorem Yc (l : List Lt) (q : Rq) : yf l q l.length = Di l q := by unfold yf Di; rw [gp]
theorem Gm (m : Ml) (q : Rq) : uf m q = none ∨ ∃ i, uf m q = some i ∧ i < m.boxes.length := by
 unfold uf;cases h : m.boxes.findIdx? (fun x => x.name.toList == q.box.toList) with
 | none => exact .inl rfl
 | some i =>
  dsimp only;split
  ·exact .inr ⟨i, rfl, (jm.1 h).1⟩
  exact .inl rfl
section
variable {W0 W : World} {wb : Nat} {k : WkV} {m : Ml} {q : Rq} {y : RqV} {o : Oc}
end
section
variable {W0 W : World} {wb : Nat} {k : WkV} {m : Ml} {q : Rq} {y : RqV} {o : Oc}
theorem xn (i : Nat) (hi : i < k.bs.length) : (ik wb k m q y o)[i + 7]? = some (ltT.row k.bs[i].v k.bs[i].rows) := by
 have := Ua (wb := wb) (m := m) (q := q) (y := y) (o := o) (E := []) i hi;rwa [jy] at this
theorem Mh {i : Nat} (hi : i < k.bs.length) (x : BxV) (hz : Zoo W0 W ((ik wb k m q y o).set (i + 7) (ltT.row x.v x.rows))) {g : Nat} (hg : k.ab = some ⟨g, 0, none⟩) (r : Nat) (hr : r < 5) (u : Value) (hx : bxT.enc x = (bxT.enc k.bs[i]).set r u) :
  Zoo W0 (W.setCell ⟨g, i * 5 + r, none⟩ u) (ik wb (Kh k i x) (qj m i x.b) q y o) := by
 have := Gd (E := []) hi x (by rw [jy]; exact hz) hg r hr u hx;rwa [jy] at this
theorem Mg {i : Nat} (hi : i < k.bs.length) (x : BxV) (hz : Zoo W0 W (ik wb k m q y o)) (hrow : x.rows = k.bs[i].rows) (hv : x.v = k.bs[i].v) {g : Nat} (hg : k.ab = some ⟨g, 0, none⟩) (r : Nat) (hr : r < 5) (u : Value) (hx : bxT.enc x = (bxT.enc k.bs[i]).set r u) :
  Zoo W0 (W.setCell ⟨g, i * 5 + r, none⟩ u) (ik wb (Kh k i x) (qj m i x.b) q y o) := by
 have := Hr (E := []) hi x (by rw [jy]; exact hz) hrow hv hg r hr u hx;rwa [jy] at this
end
set_option maxRecDepth 100000 in
set_option maxHeartbeats 16000000 in
theorem Vk {W0 W : World} {wb : Nat} {k : WkV} {m : Ml} {q : Rq} {y : RqV} {o : Oc} (hz : Zoo W0 W (ik wb k m q y o)) (hk : wm k m) (hs : Ik m) (hin : Ac W0 q y) (hq : Tv q) (ho : o.h_.length ≤ 10000) :
  Calls prog 41 #[.pointer (some ⟨wb, 0, none⟩)] W (mr W0 wb q y (oh m q o)) := by
 have hz1 := hz.dz #[.pointer (some ⟨wb, 0, none⟩)] 77;generalize hB : W.heap.size = B at hz1;obtain ⟨hb0, -⟩ := hz1.box 0 rfl;generalize hW1 : (W.alloc (.cells #[.pointer (some ⟨wb, 0, none⟩)] 77)) = W1 at *;have c0 : W1.cell? ⟨B, 0, none⟩ = some (.pointer (some ⟨wb, 0, none⟩)) := bc_ hb0 0;have hnamed := hi_ (Lh hz1.tail hk hs.boxes);replace hz1 := hi_ hz1;clear hz hb0;go_enter func41, ntmps41;go_wp2_with fail;refine hnamed.out.mono ?_;rintro e w3 ⟨hz3, hb3, hres⟩;have hz3' := hi_ (hz1.out.below hb3.out);clear hnamed hz1 hz3 hb3 hW1 hB c0;rcases Gm m q with hn | ⟨i, hn, hi⟩
 ·rw [hn] at hres;dsimp only at hres;subst hres;have hr : Hid (oh m q o = (6, m, o)) := hi_ (by unfold oh; rw [hn]);have hz4 := hi_ hz3'.out.tail;replace hk := hi_ hk;clear hn hs hin hq ho hz3';go_wp2_with fail;go_ret;exact mr.of hr.out ⟨k, rfl, hk, hz4⟩
 rw [hn] at hres;dsimp only at hres;obtain ⟨g, hg, rfl⟩ := hres;have hil : i < k.bs.length := by rw [hk.len]; exact hi
 have hgm := hk.get hil;obtain ⟨g', hg', hglt, hbox, hfr⟩ := ug hz3'.out.tail rfl hil;obtain rfl : g = g' := by have h := hg.symm.trans hg'; injection h with h; injection h
 have hrow := xn (wb := wb) (m := m) (q := q) (y := y) (o := o) i hil;have hrd := (hz3'.out.tail.own (i + 7) hrow).rd;obtain ⟨x, hx⟩ : ∃ x, k.bs[i] = x := ⟨_, rfl⟩;rw [hx] at hbox hgm hrd;have hxm : x ∈ k.bs := by rw [← hx]; exact bg hil
 have hxb : x.b ∈ m.boxes := mg hgm;have hxl : x.rows.length ≤ 10000 := by have := hs.letters _ hxb; rwa [xk] at this
 have hxf : Hid (∀ z ∈ x.rows, z.x.flags.length ≤ 10000) := hi_ (fun z hz => hs.flags _ hxb z.x (jo (f := LtV.x) hz));have hmeant := hi_ (Li (wb := wb) (g := g) (i := i) hbox.c4 hrd (by omega));have c0 : w3.cell? ⟨B, 0, none⟩ = some (.pointer (some ⟨wb, 0, none⟩)) := bc_ (hz3'.out.box 0 rfl).1 0;have hr0 : Hid (oh m q o = (if o.h_ ++ Di (x.rows.map LtV.x) q = [] then (0, m, { o with h_ := o.h_ ++ Di (x.rows.map LtV.x) q })
  else if 9223372036854775807 ≤ x.high then (13, m, { o with h_ := o.h_ ++ Di (x.rows.map LtV.x) q })
  else (0, qj m i { x.b with high := x.high + 1, letters := (x.rows.map LtV.x).filter (fun z => !Ad (x.rows.map LtV.x) q z) }, { o with h_ := o.h_ ++ Di (x.rows.map LtV.x) q }))) := hi_ (by unfold oh; rw [hn]; dsimp only; rw [hgm]; rfl)
 replace hk := hi_ hk;replace hg := hi_ hg;replace hx := hi_ hx;replace hxm := hi_ hxm;replace hin := hi_ hin;replace hq := hi_ hq;clear hn hs hg' hbox hfr hrow hrd hgm hxb hi;go_wp2_with fail;refine hmeant.out.mono ?_;rintro e w4 ⟨c, d, rfl, hcd, hb4⟩;have hz4 := hz3'.out.cap hcd.out hb4.out;have hz5 := hz4.dz #[Lj c d] 116;unfold Lj at hz5;generalize hM : w4.heap.size = M at hz5;generalize hW5 : (w4.alloc (.cells #[.func (.func 123) #[] #[.pointer (some ⟨c, 0, none⟩), .pointer (some ⟨d, 0, none⟩)]] 116)) = W5 at *;obtain ⟨g', hg', hglt, hbox, hfr⟩ := ug hz5.tail.tail.tail rfl hil;obtain rfl : g = g' := by have h := hg.out.symm.trans hg'; injection h with h; injection h
 rw [hx.out] at hbox;have b4 := hbox.c4;replace hz5 : Hid (Zoo W0 W5 (df M #[Lj c d] 116 :: Jb c d wb (yz (x.rows.map LtV.x)) :: df B #[.pointer (some ⟨wb, 0, none⟩)] 77 :: ik wb { k with aU := k.aU, cU := k.cU } m q y { o with h_ := o.h_ ++ yf (x.rows.map LtV.x) q 0 })) := hi_ (by
  have e : o.h_ ++ yf (x.rows.map LtV.x) q 0 = o.h_ := by simp [yf]
  rw [e];exact hz5)
 clear hmeant hz3' hz4 hcd hb4 hg' hbox hfr c0;go_wp2_with fail;go_loopw [25] (fun v25 wr => ∃ (j : Nat) (a : Option Addr) (cc : Nat), v25 = .int .i64 j ∧ j ≤ x.rows.length ∧ Hid (Zoo W0 wr (df M #[Lj c d] 116 :: Jb c d wb (yz (x.rows.map LtV.x)) :: df B #[.pointer (some ⟨wb, 0, none⟩)] 77 :: ik wb { k with aU := a, cU := cc } m q y { o with h_ := o.h_ ++ yf (x.rows.map LtV.x) q j }))) (fun v25 _ => x.rows.length - (intOf v25).toNat);case atStart => exact ⟨0, k.aU, k.cU, rfl, dw _, hz5⟩
 case round =>
  clear hz5 b4 hM hW5;obtain ⟨j, a, cc, rfl, hj, hz⟩ := hrel;by_cases hlt : j < x.rows.length
  ·have hrow := xn (wb := wb) (k := { k with aU := a, cU := cc }) (m := m) (q := q) (y := y) (o := { o with h_ := o.h_ ++ yf (x.rows.map LtV.x) q j }) i hil;rw [show ({ k with aU := a, cU := cc } : WkV).bs[i] = x from hx.out] at hrow;obtain ⟨gl, cap', hv, -, hgl, hcells⟩ := (hz.out.own (i + 10) hrow).cells hlt;injection hv with hv1 hv2 hv3;obtain ⟨z, hzx⟩ : ∃ z, x.rows[j] = z := ⟨_, rfl⟩;rw [hzx] at hcells;have r0 : wr.cell? ⟨gl, j * 5, none⟩ = some (.int .u64 z.x.uid) := hcells 0 (by decide);have r1 : wr.cell? ⟨gl, j * 5 + 1, none⟩ = some (.slice z.a z.x.flags.length z.c) := hcells 1 (by decide);have r2 : wr.cell? ⟨gl, j * 5 + 2, none⟩ = some (.int .u64 z.x.mod) := hcells 2 (by decide);have r3 : wr.cell? ⟨gl, j * 5 + 3, none⟩ = some (.string z.x.hash) := hcells 3 (by decide);have r4 : wr.cell? ⟨gl, j * 5 + 4, none⟩ = some (.int .u64 z.x.size) := hcells 4 (by decide);have hzm : z ∈ x.rows := (by rw [← hzx]; exact bg hlt);have hzb := hz.out.dz [.int .u64 z.x.uid, .slice z.a z.x.flags.length z.c, .int .u64 z.x.mod, .string z.x.hash, .int .u64 z.x.size].toArray 50;have hcall := Rl z B M c d wb q.h_ y.au y.cu (yz (x.rows.map LtV.x)) (bc_ (hzb.box 3 rfl).1 0) (bc_ (hzb.box 1 rfl).1 0) (bc_ (hzb.box 4 rfl).1 15) (hzb.capOf 2 rfl).1 (hzb.capOf 2 rfl).2 (Ac.below hin.out hzb.bel).1 hq.out.ul (hzb.fl 10 rfl (hk.out.2 x hxm.out z hzm)) (by have := hxf.out z hzm; omega);replace hcall : Calls prog 93 #[.agg #[.int .u64 z.x.uid, .slice z.a z.x.flags.length z.c, .int .u64 z.x.mod, .string z.x.hash, .int .u64 z.x.size], .pointer (some ⟨B, 0, none⟩), .pointer (some ⟨M, 0, none⟩)] (wr.alloc (.cells #[.int .u64 z.x.uid, .slice z.a z.x.flags.length z.c, .int .u64 z.x.mod, .string z.x.hash, .int .u64 z.x.size] 50)) fun e w' => e = .returned (.bool (Ad (x.rows.map LtV.x) q z.x)) ∧ Hid (Below (wr.alloc (.cells #[.int .u64 z.x.uid, .slice z.a z.x.flags.length z.c, .int .u64 z.x.mod, .string z.x.hash, .int .u64 z.x.size] 50)).heap.size (wr.alloc (.cells #[.int .u64 z.x.uid, .slice z.a z.x.flags.length z.c, .int .u64 z.x.mod, .string z.x.hash, .int .u64 z.x.size] 50)) w') := hcall;have hl1 : (j : Int) < (x.rows.length : Int) := (by omega);have hlm : j < (x.rows.map LtV.x).length := (by rw [az]; exact hlt);have hzj : (x.rows.map LtV.x)[j] = z.x := (by rw [ou, hzx]);have hlen : Hid ((o.h_ ++ yf (x.rows.map LtV.x) q j).length ≤ 20000) := hi_ (by
    have := Yb (x.rows.map LtV.x) q j;rw [az] at this;rw [bz]; omega)
   have hno : Hid (Ad (x.rows.map LtV.x) q z.x = false → yf (x.rows.map LtV.x) q (j + 1) = yf (x.rows.map LtV.x) q j) := hi_ (fun h => bg_ hlm (by rw [hzj]; exact h));have hyes : Hid (Ad (x.rows.map LtV.x) q z.x = true → yf (x.rows.map LtV.x) q (j + 1) = yf (x.rows.map LtV.x) q j ++ [z.x.uid]) := hi_ (fun h => by rw [Ya hlm (by rw [hzj]; exact h), hzj]);replace hcall := hi_ hcall;replace hzb := hi_ hzb;clear hcells hrow hzx hzm hlm hzj hv2 hv3 hz;generalize x.rows.map LtV.x = ls at *;generalize hus : o.h_ ++ yf ls q j = us at *;replace hus := hi_ hus;go_wp2_with fail;refine hcall.out.mono ?_;rintro e w1 ⟨rfl, hb1⟩;have hz2 := hzb.out.below hb1.out;generalize hB : wr.heap.size = Lb at hz2 ⊢;clear r0 r1 r2 r3 r4 hb1 hzb hcall hB;cases hgz : Ad ls q z.x with
   | false =>
    have e := hi_ (hno.out hgz);have hz3 := hi_ hz2.tail;clear hno hyes hgz hz2 hv1;go_wp2_with fail;go_roundw;case rel => exact ⟨j + 1, a, cc, by go_num, by omega, hi_ (by rw [e.out, hus.out]; exact hz3.out)⟩
    case measure => simp [intOf] <;> omega
   | true =>
    have e := hi_ (hyes.out hgz);have hz3 := hz2.drew;have s0 : w1.drew.cell? ⟨B, 0, none⟩ = some (.pointer (some ⟨wb, 0, none⟩)) := bc_ (hz3.box 3 rfl).1 0;have s26 : w1.drew.cell? ⟨wb, 26, none⟩ = some (.slice a us.length cc) := bc_ (hz3.box 4 rfl).1 26;have sL : w1.drew.cell? ⟨Lb, 0, none⟩ = some (.int .u64 z.x.uid) := bc_ (hz3.box 0 rfl).1 0;clear hno hyes hgz hz2 hv1;go_wp2_with fail;refine wr_ (fun w' => w'.cell? ⟨B, 0, none⟩ = some (.pointer (some ⟨wb, 0, none⟩)) ∧ w'.cell? ⟨wb, 26, none⟩ = some (.slice a us.length cc) ∧ w'.cell? ⟨Lb, 0, none⟩ = some (.int .u64 z.x.uid)) 10 4 ⟨s0, s26, sL⟩ fun hok hS0 => ?_;generalize w1.drew = Wd at *;refine av hok 0 ?_;refine av hok 1 ?_;refine av hok 2 ?_;refine av hok 3 ?_;refine av hok 4 ?_;refine av hok 5 ?_;refine av hok 6 ?_;refine av hok 7 ?_;refine g_ 8 fun K hK => ?_;go_simp;have hzA := hz3.alloc (.cells (ky.enc z.x.uid).toArray 23);refine hK _ _ ⟨lg _ s0, lg _ s26, lg _ sL⟩ ?_;clear hK K;try simp only [nrm_, Act.put]
    refine g_ 9 fun K hK => ?_;have hown1 := RT.Own.one ky Wd z.x.uid Wd.heap.size rfl;obtain ⟨F, ⟨ho1, hF⟩, -, hact⟩ := hzA.act 5 (ky.row (.slice a us.length cc) us) rfl;refine ky.jv rfl (.tmp 37) (.tmp 40) rfl _ _ us [z.x.uid] rfl rfl ho1 hown1.rd (by rw [bi]; have := hlen.out; omega) ?_;intro v8 w8 ho8 hg8 hat8;have hz8 := hact (ky.row v8 (us ++ [z.x.uid])) (fun k => v8.ownBlock = some k) w8 ⟨ho8, fun _ => j6⟩ (iy hF hg8 hat8);obtain ⟨a8, c8, hv8⟩ := ho8.len;subst hv8;have t0 : w8.cell? ⟨B, 0, none⟩ = some (.pointer (some ⟨wb, 0, none⟩)) := bc_ (hz8.box 3 rfl).1 0;have t26 : w8.cell? ⟨wb, 26, none⟩ = some (.slice a us.length cc) := bc_ (hz8.box 4 rfl).1 26;have tL : w8.cell? ⟨Lb, 0, none⟩ = some (.int .u64 z.x.uid) := bc_ (hz8.box 0 rfl).1 0;have f26 := bf_ (hz8.box 4 rfl).1 26;refine hK _ _ ⟨t0, t26, tL⟩ ?_;clear hK K;refine kw ?_;have hz9 := hz8.il 4 rfl 26 (.slice a8 (us ++ [z.x.uid]).length c8);replace hz9 : Hid (Zoo W0 (w8.setCell ⟨wb, 26, none⟩ (.slice a8 (us ++ [z.x.uid]).length c8)) (df M #[Lj c d] 116 :: Jb c d wb (yz ls) :: df B #[.pointer (some ⟨wb, 0, none⟩)] 77 :: ik wb { k with aU := a8, cU := c8 } m q y { o with h_ := us ++ [z.x.uid] })) := hi_ hz9.tail;generalize (us ++ [z.x.uid]).length = n8 at *;rw [← hus.out, jd, ← e.out] at hz9;clear hz8 hact ho8 hg8 hat8 ho1 hF hown1 hzA hz3 s0 s26 sL hok hS0;go_wp2_with fail;go_roundw;case rel => exact ⟨j + 1, a8, c8, by go_num, by omega, hz9⟩
    case measure => simp [intOf] <;> omega
  obtain rfl : j = (x.rows.map LtV.x).length := by rw [az]; omega
  rw [Yc] at hz;have hl1 : (x.rows.length : Int) ≤ (((x.rows.map LtV.x).length : Nat) : Int) := by rw [az]; omega
  generalize hus : o.h_ ++ Di (x.rows.map LtV.x) q = us at *;generalize (x.rows.map LtV.x).length = n at hl1 ⊢;have c0 : wr.cell? ⟨B, 0, none⟩ = some (.pointer (some ⟨wb, 0, none⟩)) := bc_ (hz.out.box 2 rfl).1 0;have c26 : wr.cell? ⟨wb, 26, none⟩ = some (.slice a us.length cc) := bc_ (hz.out.box 3 rfl).1 26;obtain ⟨g', hg', hglt, hbox, hfr⟩ := ug hz.out.tail.tail.tail rfl hil;obtain rfl : g = g' := by have h := hg.out.symm.trans hg'; injection h with h; injection h
  rw [show ({ k with aU := a, cU := cc } : WkV).bs[i] = x from hx.out] at hbox;have b3 := hbox.c3;have b4 := hbox.c4;have f4 := hfr (i * 5 + 4);have hok2 : Hid (wm { k with aU := a, cU := cc } m) := hi_ ⟨hk.out.1, hk.out.2⟩;by_cases hu0 : us = []
  ·subst hu0;have hr : Hid (oh m q o = (0, m, { o with h_ := [] })) := hi_ (by rw [hr0.out, dh rfl]);replace hz := hi_ hz.out.tail.tail.tail;clear hr0 hg' hbox hfr;go_wp2_with fail;go_ret;exact mr.of hr.out ⟨_, rfl, hok2, hz⟩
  have hu1 : ((us.length : Int) == 0) = false := by
   have : us.length ≠ 0 := fun h => hu0 (eu h);simp; omega
  by_cases hhi : 9223372036854775807 ≤ x.high
  ·have hhi2 : (9223372036854775807 : Int) ≤ (x.high : Int) := (by omega);have hr : Hid (oh m q o = (13, m, { o with h_ := us })) := hi_ (by rw [hr0.out, bq hu0, dh hhi]);replace hz := hi_ hz.out.tail.tail.tail;clear hr0 hg' hbox hfr hu0;go_wp2_with fail;go_ret;exact mr.of hr.out ⟨_, rfl, hok2, hz⟩
  have hhi2 : decide ((9223372036854775807 : Int) ≤ (x.high : Int)) = false := aj (by omega);have hhi3 : x.high + 1 < 18446744073709551616 := by omega
  have hr := hi_ hr0.out;rw [bq hu0, bq hhi] at hr;have hrow := xn (wb := wb) (k := { k with aU := a, cU := cc }) (m := m) (q := q) (y := y) (o := { o with h_ := us }) i hil;rw [show ({ k with aU := a, cU := cc } : WkV).bs[i] = x from hx.out] at hrow;have hfront := hz.out.front (i + 10) hrow;have hdel := hi_ (Vg x.v x.rows (fun z => Ad (x.rows.map LtV.x) q z.x) (.pointer (some ⟨B, 0, none⟩)) (.pointer (some ⟨M, 0, none⟩)) (by omega) hfront (fun z hzm W2 l2 h2 => Rl z B M c d wb q.h_ y.au y.cu (yz (x.rows.map LtV.x)) (bc_ (h2.box 3 rfl).1 0) (bc_ (h2.box 1 rfl).1 0) (bc_ (h2.box 4 rfl).1 15) (h2.capOf 2 rfl).1 (h2.capOf 2 rfl).2 (Ac.below hin.out h2.bel).1 hq.out.ul (h2.fl 10 rfl (hk.out.2 x hxm.out z hzm)) (by have := hxf.out z hzm; omega)));unfold BxV.v at hdel;clear hfront hr0 hg' hbox hfr hu0 hrow hhi;go_wp2_with fail;refine hdel.out.mono ?_;rintro e w5 ⟨v5, rfl, hz5⟩;obtain ⟨a5, n5, hv5⟩ := (hz5.out.own 0 rfl).len;subst hv5;have hz6 := Zoo.back (L := df M #[Lj c d] 116 :: Jb c d wb (yz (x.rows.map LtV.x)) :: df B #[.pointer (some ⟨wb, 0, none⟩)] 77 :: ik wb { k with aU := a, cU := cc } m q y { o with h_ := us }) (i + 10) (by
   have := (jl.1 (xn (wb := wb) (k := { k with aU := a, cU := cc }) (m := m) (q := q) (y := y) (o := { o with h_ := us }) i hil)).1;simp only [qc]; omega) hz5.out
  replace hz6 := hz6.tail.tail.tail;obtain ⟨x1, hx1e⟩ : ∃ x1 : BxV, { x with rows := x.rows.filter (fun z => !Ad (x.rows.map LtV.x) q z.x), a := a5, c := n5 } = x1 := ⟨_, rfl⟩;have hz6' : Zoo W0 w5 ((ik wb { k with aU := a, cU := cc } m q y { o with h_ := us }).set (i + 7) (ltT.row x1.v x1.rows)) := by rw [← hx1e]; exact hz6
  obtain ⟨g', hg', -, hbox, hfr⟩ := ug hz6' rfl hil;obtain rfl : g = g' := by have h := hg.out.symm.trans hg'; injection h with h; injection h
  rw [show ({ k with aU := a, cU := cc } : WkV).bs[i] = x from hx.out] at hbox;have d3 := hbox.c3;have d4 := hbox.c4;have f3 := hfr (i * 5 + 3);have f4' := hfr (i * 5 + 4);have hz7 := Mh (k := { k with aU := a, cU := cc }) hil x1 hz6' hg.out 4 (by decide) (.slice a5 (x.rows.filter (fun z => !Ad (x.rows.map LtV.x) q z.x)).length n5) (by
   rw [← hx1e];show _ = (bxT.enc (k.bs[i]'hil)).set 4 _;rw [hx.out];rfl)
  have hxl1 : Hg k.S x1.rows := by rw [← hx1e]; exact fun z hz => hk.out.2 x hxm.out z (ui.1 hz).1
  obtain ⟨k2, m2, hk2, hm2, hok3, hg2, hil2, hx2⟩ := hok2.out.bump hil x1 hxl1;rw [hk2, hm2] at hz7;have hx2' := hx2 hil2;have hz8 := Mg (k := k2) hil2 { x1 with high := x.high + 1 } hz7 (by rw [hx2']) (by rw [hx2']; rfl) (hg2.trans hg.out) 3 (by decide) (.int .u64 ((x.high : Int) + 1)) (by rw [hx2', ← hx1e]; rfl);have hok4 := wm.set (i := i) hok3 { x1 with high := x.high + 1 } (by rw [← hk2]; exact hxl1);have hm3 : qj m2 i ({ x1 with high := x.high + 1 } : BxV).b = qj m i { x.b with high := x.high + 1, letters := (x.rows.map LtV.x).filter (fun z => !Ad (x.rows.map LtV.x) q z) } := by
   rw [← hm2, ← hx1e];unfold qj BxV.b;dsimp only;rw [Qa, Dw];rfl
  rw [hm3] at hz8 hok4;replace hz8 := hi_ hz8;replace hok4 := hi_ hok4;clear hz7 hz6 hz6' hz5 hdel hbox hfr hg' hx1e hxl1 hk2 hm2 hok3 hg2 hx2 hx2' hm3 hok2 hz b3 b4 f4 c0 c26 hxf hu1;generalize (x.rows.filter (fun z => !Ad (x.rows.map LtV.x) q z.x)).length = n5' at *;go_wp2_with fail;go_ret;exact mr.of hr.out ⟨_, rfl, hok4, hz8⟩
end
section
open Go.RowKit
def Dj (h : Nat) : Nat → List Lt → List Lt
 | _, [] => []
 | n, x :: r => { x with uid := n, mod := h } :: Dj h (n + 1) r
theorem Js (h : Nat) (x : Lt) : ∀ (l : List Lt) (n : Nat), Dj h n (l ++ [x]) = Dj h n l ++ [{ x with uid := n + l.length, mod := h }]
 | [], n => rfl
 | z :: r, n => by
  show _ :: Dj h (n + 1) (r ++ [x]) = _ :: (Dj h (n + 1) r ++ _);rw [Js h x r (n + 1), qc, show n + 1 + r.length = n + (r.length + 1) from by omega]
theorem Iy (h : Nat) : ∀ (l : List Lt) (n : Nat), (Dj h n l).length = l.length
 | [], _ => rfl
 | _ :: r, n => by show (Dj h (n + 1) r).length + 1 = r.length + 1; rw [Iy h r (n + 1)]
def copied (d : Bx) (l : List Lt) : Bx := { d with next := d.next + l.length, high := d.high + 1, letters := d.letters ++ Dj (d.high + 1) d.next l }
theorem Vt (d : Bx) (l : List Lt) (x : Lt) : copied d (l ++ [x]) = { copied d l with next := (copied d l).next + 1, letters := (copied d l).letters ++ [{ x with uid := (copied d l).next, mod := (copied d l).high }] } := by
 unfold copied;dsimp only;rw [Js, bz, bi, jd];rfl
def uw (m : Ml) (q : Rq) (o : Oc) : Int × Ml × Oc := match uf m q with
 | none => (6, m, o)
 | some i => match m.boxes[i]? with
  | none => (6, m, o)
  | some b => match m.boxes.findIdx? (fun x => x.name.toList == q.to_.toList) with
   | none => (21, m, o)
   | some t => match m.boxes[t]? with
    | none => (21, m, o)
    | some d =>
     if b.letters.filter (l_ b.letters q) = [] then (0, m, { o with ag := d.ag })
     else if 32 < d.letters.length + (b.letters.filter (l_ b.letters q)).length then (7, m, { o with ag := d.ag })
     else if 4294967296 < d.next + (b.letters.filter (l_ b.letters q)).length ∨ 9223372036854775807 ≤ d.high then (13, m, { o with ag := d.ag })
     else (0, qj m t (copied d (b.letters.filter (l_ b.letters q))), { o with ag := d.ag, h_ := o.h_ ++ List.range' d.next (b.letters.filter (l_ b.letters q)).length })
theorem Og (m : Ml) (i : Nat) (a b : Bx) : qj (qj m i a) i b = qj m i b := by unfold qj; dsimp only; rw [Qa]
theorem cq_ {m : Ml} {i : Nat} (hi : i < m.boxes.length) (b : Bx) : (qj m i b).boxes[i]? = some b := by unfold qj; dsimp only; rw [Qb hi]
theorem cp_ (m : Ml) (i : Nat) (b : Bx) : (qj m i b).boxes.length = m.boxes.length := gq
section
variable {W0 W : World} {wb : Nat} {k : WkV} {m : Ml} {q : Rq} {y : RqV} {o : Oc}
theorem Mf {E : List Th} {i : Nat} (hi : i < k.bs.length) (x : BxV) (hz : Zoo W0 W (E ++ (ik wb k m q y o).set (i + 7) (ltT.row x.v x.rows))) {g : Nat} (hg : k.ab = some ⟨g, 0, none⟩) (r : Nat) (hr : r < 5) (u : Value) (hx : bxT.enc x = (bxT.enc k.bs[i]).set r u) :
  Zoo W0 (W.setCell ⟨g, i * 5 + r, none⟩ u) (E ++ ik wb (Kh k i x) (qj m i x.b) q y o) := by
 have h1 := hz.perm List.perm_append_comm;have hl := (jl.1 (xn (wb := wb) (k := k) (m := m) (q := q) (y := y) (o := o) i hi)).1;have h2 := Gd (E := E) hi x (by rw [Ho _ _ hl]; exact h1) hg r hr u hx;exact h2.perm List.perm_append_comm
theorem Ww (i : Nat) (hi : i < k.bs.length) (x : BxV) (hr : x.rows = k.bs[i].rows) (hv : x.v = k.bs[i].v) : (ik wb k m q y o).set (i + 7) (ltT.row x.v x.rows) = ik wb k m q y o := by
 have := Q_ (wb := wb) (m := m) (q := q) (y := y) (o := o) (E := []) i hi x hr hv;rwa [jy] at this
theorem Kb {E : List Th} {i : Nat} (hi : i < k.bs.length) (x : BxV) (hz : Zoo W0 W (E ++ ik wb k m q y o)) (hrow : x.rows = k.bs[i].rows) (hv : x.v = k.bs[i].v) {g : Nat} (hg : k.ab = some ⟨g, 0, none⟩) (r : Nat) (hr : r < 5) (u : Value) (hx : bxT.enc x = (bxT.enc k.bs[i]).set r u) :
  Zoo W0 (W.setCell ⟨g, i * 5 + r, none⟩ u) (E ++ ik wb (Kh k i x) (qj m i x.b) q y o) :=
 Mf hi x (by rw [Ww i hi x hrow hv]; exact hz) hg r hr u hx
end
structure ew_ (k0 : WkV) (m : Ml) (t : Nat) (d : Bx) (out : List LtV) (k : WkV) (j : Nat) : Prop where
 ok : wm k (qj m t (copied d ((out.take j).map LtV.x)))
 ab : k.ab = k0.ab
 has : Hg k.S out
 le : j ≤ out.length
theorem ew_.at_ {k0 : WkV} {m : Ml} {t : Nat} {d : Bx} {out : List LtV} {k : WkV} {j : Nat} (h : ew_ k0 m t d out k j) (ht : t < m.boxes.length) : ∃ hl : t < k.bs.length, k.bs[t].b = copied d ((out.take j).map LtV.x) := by
 have hl : t < k.bs.length := by rw [h.ok.len, cp_]; exact ht
 refine ⟨hl, ?_⟩;have h1 := h.ok.get hl;rw [cq_ ht] at h1;exact (jc h1).symm
end
section
open Go.RowKit Go.Lib Go.Sort
theorem za.mono {B B' : Nat} {w : World} {v : Value} {l : List (List UInt8)} (h : za B w v l) (hb : B' ≤ B) : za B' w v l := by
 obtain ⟨ao, cap, hv, h⟩ := h;refine ⟨ao, cap, hv, h.imp id ?_⟩;rintro ⟨g, ha, hg, r⟩;exact ⟨g, ha, ed hb hg, r⟩
def Yp (l : List (List UInt8)) (w : World) (e : Ending) (w' : World) : Prop := ∃ v', e = .returned v' ∧ Hid (za w.heap.size w' v' l) ∧ Hid (Below w.heap.size w w')
theorem Wj (u v : Value) (l : List (List UInt8)) (w : World) (hr : Rd w v l.length (l.map encStr)) (hl : l.length * 16 ≤ 140737488355328) :
  Calls prog 125 #[u, v] w (Yp (ni l) w) := by
 have hr0 := hi_ hr;obtain ⟨ao, cap, rfl, -⟩ := hr;go_enter func125, ntmps125;go_wp2_with fail;refine (Np _ l w hr0.out hl).mono ?_;rintro e w1 ⟨v1, rfl, h1, b1⟩;have hrd := hi_ h1.out;obtain ⟨ao1, cap1, rfl, -⟩ : ∃ ao cap, v1 = .slice ao (ni l).length cap ∧ True := by
  obtain ⟨ao, cap, h, _⟩ := h1.out; exact ⟨ao, cap, h, trivial⟩
 clear h1;go_wp2_with fail;go_ret;exact ⟨_, rfl, hrd, b1⟩
set_option maxRecDepth 100000 in
set_option maxHeartbeats 2000000 in
theorem Ub (v u : Value) (l by_ : List (List UInt8)) (w : World) (hr : Rd w v l.length (l.map encStr)) (hu : Rd w u by_.length (by_.map encStr)) (hl : l.length * 16 ≤ 140737488355328) (hul : by_.length * 16 ≤ 140737488355328) :
  Calls prog 127 #[v, u] w (Yp ((ni l).filter fun x => !decide (x ∈ by_)) w) := by
 have eg : ∀ args w, (callFunc 159 args).run prog w = .ok (.enter 159 args) w := enters_of func159 (by kernel_rfl) rfl;have hr0 := hi_ hr;have hu0 := hi_ hu;obtain ⟨ao, cap, rfl, -⟩ := hr;obtain ⟨ao2, cap2, rfl, -⟩ := hu;go_enter func127, ntmps127;go_wp2_with fail;have b0 : Below w.heap.size w (w.alloc (.cells #[.slice ao2 by_.length cap2] 39)) := (Lays.alloc _ _).below;have hc0 : (w.alloc (.cells #[.slice ao2 by_.length cap2] 39)).cell? ⟨w.heap.size, 0, none⟩ = some (.slice ao2 by_.length cap2) := by simp
 have hz0 : (w.alloc (.cells #[.slice ao2 by_.length cap2] 39)).heap.size = w.heap.size + 1 := by simp
 refine (Np _ l _ (hr0.out.below b0) hl).mono ?_;generalize w.alloc (.cells #[.slice ao2 by_.length cap2] 39) = w0 at b0 hc0 hz0 ⊢;rintro e w1 ⟨v1, rfl, h1, b1⟩;have b01 : Below w.heap.size w w1 := b0.trans (b1.out.mono (by omega));have hat : ∀ W, Below (w.heap.size + 1) w1 W → Calls prog 159 #[encStr [], .pointer (some ⟨w.heap.size, 0, none⟩)] W (fun e w' => True) ∧ ∀ x, FnGives prog 159 #[.pointer (some ⟨w.heap.size, 0, none⟩)] #[encStr x] (.bool (decide (x ∈ by_))) W := fun W hW => by
  have hbW : Below w.heap.size w W := b01.trans (hW.mono (by omega));have hcW : W.cell? ⟨w.heap.size, 0, none⟩ = some (.slice ao2 by_.length cap2) := by
   rw [hW.cell (p := ⟨w.heap.size, 0, none⟩) (by simp), b1.out.cell (p := ⟨w.heap.size, 0, none⟩) (by simp; omega)];exact hc0
  have key := fun x => fm_ x w.heap.size (.slice ao2 by_.length cap2) by_ W hcW (hu0.out.below hbW) hul;exact ⟨(key []).mono fun _ _ _ => trivial, fun x => (key x).mono fun _ _ ⟨he, hw⟩ => ⟨he, 0, hw.symm⟩⟩
 rcases h1.out with ⟨ao1, cap1, rfl, h1e | ⟨g, rfl, hg, hgl, hcap, hH⟩⟩
 ·have he : (ni l).filter (fun x => !decide (x ∈ by_)) = [] := by rw [h1e]; rfl
  have hz : (ni l).length = 0 := by rw [h1e]; rfl
  rw [hz];clear hat h1;go_wp2_with fail;refine (Nj ao1 cap1 _ w1).mono ?_;rintro e w2 ⟨rfl, rfl⟩;go_wp2_with fail;go_ret;exact ⟨_, rfl, hi_ (by rw [he]; exact ⟨ao1, cap1, rfl, .inl rfl⟩), hi_ b01⟩
 have hle : (ni l).length ≤ l.length := yn flt l;have hdel := slices_DeleteFunc encStr Ov (fun x => decide (x ∈ by_)) 159 #[.pointer (some ⟨w.heap.size, 0, none⟩)] eg ([] : List UInt8) (fun w => by
   have h := Ke;simp only [Option.map_eq_some_iff] at h;obtain ⟨i, hi, he⟩ := h;have hz : i.zero = some (.string ⟨#[]⟩) := jk (·.1) he;simp [zeroValue, typeInfo, hi, hz, encStr]) g 0 cap1 (ni l).toArray w1
  (fun W x hW => (hat W (hW.mono (by have := b1.out.size; omega))).2 x)
  (fun n os dk x _ => (hat _ (Gz (ae _ _) n g 0 dk os (by omega) (by have := b1.out.size; omega))).2 x)
  hH (by simp; omega) (by simpa using hcap)
 rw [show (ni l).toArray.size = (ni l).length from by simp] at hdel;replace hdel := hi_ hdel;replace hH := hi_ hH;clear hat h1 b0 hc0;obtain ⟨R, hR⟩ : ∃ R, Hid (R = (ni l).filter fun x => !decide (x ∈ by_)) := ⟨_, hi_ rfl⟩;have hRl : R.length ≤ (ni l).length := by rw [hR.out]; exact lw _ _
 go_wp2_with fail;refine hdel.out.mono ?_;rintro e w2 ⟨rfl, q, hw2⟩;have e1 : ((ni l).toArray.toList.filter fun x => !decide (x ∈ by_)) = R := by rw [hR.out]
 simp only [e1] at hw2;rw [e1];have hH2 : Holds encStr w2 g 0 R.toArray := by
  rw [hw2];refine Pj (b := List.replicate ((ni l).length - R.length) []) ?_;exact holds_putRow encStr _ g 0 (ni l).toArray _ hH.out (by simp; omega)
 have hgl2 : g < w2.heap.size := by rw [hw2, size_putRow]; exact hgl
 have b2 : Below w.heap.size w w2 := by rw [hw2]; exact below_putRow b01 q g 0 _ (by omega)
 have hrd : Hid (za w.heap.size w2 (.slice (some ⟨g, 0, none⟩) R.length cap1) R) := hi_ ⟨_, cap1, rfl, .inr ⟨g, rfl, by omega, hgl2, by omega, hH2⟩⟩;replace b2 := hi_ b2;clear hw2 hdel e1 hH2;go_wp2_with fail;go_ret;exact ⟨_, rfl, hi_ (by rw [← hR.out]; exact hrd.out), b2⟩
theorem ci_ (v u : Value) (l m : List (List UInt8)) (w : World) (hr : Rd w v l.length (l.map encStr)) (hu : Rd w u m.length (m.map encStr)) (hl : l.length ≤ 100) (hm : m.length ≤ 100) :
  Calls prog 126 #[v, u] w (Yp (ni (l ++ m)) w) := by
 have hr0 := hi_ hr;have hu0 := hi_ hu;obtain ⟨ao, cap, rfl, -⟩ := hr;obtain ⟨ao2, cap2, rfl, -⟩ := hu;go_enter func126, ntmps126;go_wp2_with fail;have b0 : Below w.heap.size w (w.alloc (.cells #[.slice ao l.length cap, .slice ao2 m.length cap2] 144)) := (Lays.alloc _ _).below;refine (Yg w.heap.size (.slice ao l.length cap) (.slice ao2 m.length cap2) l m _ (by simp) (by simp) (by simp) (hr0.out.below b0) (hu0.out.below b0) hl hm).mono ?_;rintro e w1 ⟨v1, rfl, o1, b1⟩;have b1' := hi_ (b0.trans (b1.out.mono b0.size));clear b0 b1;go_wp2_with fail;refine (Np _ (l ++ m) w1 o1.out.rd (by simp; omega)).mono ?_;rintro e w2 ⟨v2, rfl, h2, b2⟩;have b2' := hi_ (b1'.out.trans (b2.out.mono b1'.out.size));have hrd := hi_ (h2.out.mono b1'.out.size);clear b2 h2;go_wp2_with fail;go_ret;exact ⟨_, rfl, hrd, b2'⟩
def Wu (l : List (List UInt8)) (how : Int) (by_ : List (List UInt8)) (w : World) (e : Ending) (w' : World) : Prop := ∃ v', e = .returned (.tuple #[v', .int .i64 (zl l how by_ : Int)]) ∧ Hid (za w.heap.size w' v' (Ao l how by_)) ∧ Hid (Below w.heap.size w w')
theorem Kq {l by_ : List (List UInt8)} {how : Int} {w w' : World} (h : Cw l how by_ = false) (hb : Below w.heap.size w w') : Wu l how by_ w (.returned (.tuple #[.slice none 0 0, .int .i64 1])) w' :=
 ⟨.slice none 0 0, by rw [zl, h]; rfl, hi_ (by rw [Ao, h]; exact ⟨none, 0, rfl, .inl rfl⟩), hi_ hb⟩
theorem Pv {l by_ : List (List UInt8)} {how : Int} {w w' : World} (h : Cw l how by_ = true) (h2 : 16 < (ni (Ed l how by_)).length) (hb : Below w.heap.size w w') : Wu l how by_ w (.returned (.tuple #[.slice none 0 0, .int .i64 7])) w' :=
 ⟨.slice none 0 0, by rw [zl, dh h, dh h2]; rfl, hi_ (by rw [Ao, dh h, dh h2]; exact ⟨none, 0, rfl, .inl rfl⟩), hi_ hb⟩
theorem Yk {l by_ : List (List UInt8)} {how : Int} {w w' : World} {v : Value} (h : Cw l how by_ = true) (h2 : ¬ 16 < (ni (Ed l how by_)).length) (hr : za w.heap.size w' v (ni (Ed l how by_))) (hb : Below w.heap.size w w') : Wu l how by_ w (.returned (.tuple #[v, .int .i64 0])) w' :=
 ⟨v, by rw [zl, dh h, bq h2]; rfl, hi_ (by rw [Ao, dh h, bq h2]; exact hr), hi_ hb⟩
set_option maxRecDepth 100000 in
set_option maxHeartbeats 4000000 in
theorem Yl (v u : Value) (l by_ : List (List UInt8)) (how : Int) (w : World) (hr : Rd w v l.length (l.map encStr)) (hu : Rd w u by_.length (by_.map encStr)) (hl : (l.length + 2) * 16 ≤ 140737488355328) (hul : (by_.length + 2) * 16 ≤ 140737488355328) (hs : Eh l) (hus : Eh by_) :
  Calls prog 92 #[v, .int .i64 how, u] w (Wu l how by_ w) := by
 have hr0 := hi_ hr;have hu0 := hi_ hu;replace hs := hi_ hs;replace hus := hi_ hus;obtain ⟨ao, cap, rfl, -⟩ := hr;obtain ⟨ao2, cap2, rfl, -⟩ := hu;go_enter func92, ntmps92;go_wp2_with fail;have hc : ∀ W, Below (w.heap.size + 1) (w.alloc (.cells #[.func (.func 125) #[] #[], .func (.func 126) #[] #[], .func (.func 127) #[] #[]] 145)) W → W.cell? ⟨w.heap.size, 0, none⟩ = some (.func (.func 125) #[] #[]) ∧ W.cell? ⟨w.heap.size, 1, none⟩ = some (.func (.func 126) #[] #[]) ∧ W.cell? ⟨w.heap.size, 2, none⟩ = some (.func (.func 127) #[] #[]) := fun W hW => by
  refine ⟨?_, ?_, ?_⟩ <;> (rw [hW.cell (by simp)]; simp)
 have b0 : Below w.heap.size w (w.alloc (.cells #[.func (.func 125) #[] #[], .func (.func 126) #[] #[], .func (.func 127) #[] #[]] 145)) := (Lays.alloc _ _).below;have hz0 : (w.alloc (.cells #[.func (.func 125) #[] #[], .func (.func 126) #[] #[], .func (.func 127) #[] #[]] 145)).heap.size = w.heap.size + 1 := by simp
 refine (Ip _ l _ (hr0.out.below b0) hl hs.out).mono ?_;generalize w.alloc (.cells #[.func (.func 125) #[] #[], .func (.func 126) #[] #[], .func (.func 127) #[] #[]] 145) = w0 at hc b0 hz0 ⊢;rintro e w1 ⟨rfl, b1⟩;have hb1 : Hid (Below (w.heap.size + 1) w0 w1) := hi_ (b1.out.mono (by omega));have hb1' : Hid (Below w.heap.size w w1) := hi_ (b0.trans (b1.out.mono (by omega)));replace hc := hi_ hc;clear b1;cases hR : kr l
 ·have hno : Hid (Cw l how by_ = false) := hi_ (by rw [Cw, hR]; rfl);replace hR := hi_ hR;go_wp2_with fail;go_ret2
  exact Kq hno.out hb1'.out
 replace hR := hi_ hR;go_wp2_with fail;refine (Ip _ by_ w1 (hu0.out.below hb1'.out) hul hus.out).mono ?_;rintro e w2 ⟨rfl, b2⟩;have hb2 : Hid (Below (w.heap.size + 1) w0 w2) := hi_ (hb1.out.trans (b2.out.mono (by have := hb1.out.size; omega)));have hb2' : Hid (Below w.heap.size w w2) := hi_ (hb1'.out.trans (b2.out.mono hb1'.out.size));clear b2 hb1 hb1' b0 hz0;cases hR2 : kr by_
 ·have hno : Hid (Cw l how by_ = false) := hi_ (by rw [Cw, hR2]; simp);replace hR2 := hi_ hR2;go_wp2_with fail;go_ret2
  exact Kq hno.out hb2'.out
 replace hR2 := hi_ hR2;by_cases hlo : how < 0
 ·have hno : Hid (Cw l how by_ = false) := hi_ (by rw [Cw, aj (show ¬ 0 ≤ how by omega)]; simp);go_wp2_with fail;go_ret2
  exact Kq hno.out hb2'.out
 by_cases hhi : 3 ≤ how
 ·have hno : Hid (Cw l how by_ = false) := hi_ (by rw [Cw, aj (show ¬ how < 3 by omega)]; simp);go_wp2_with fail;go_ret2
  exact Kq hno.out hb2'.out
 have hokk := hi_ (Ym hR.out hR2.out (show 0 ≤ how by omega) (show how < 3 by omega));have hl16 := Bo hR.out;have hu16 := Bo hR2.out;have hr2 := hi_ (hr0.out.below hb2'.out);have hu2 := hi_ (hu0.out.below hb2'.out);rcases (show how = 0 ∨ how = 1 ∨ how = 2 by omega) with rfl | rfl | rfl
 ·have hcc := (hc.out w2 hb2.out).1;go_wp2_with fail;refine (Wj _ _ by_ w2 hu2.out (by omega)).mono ?_;rintro e w3 ⟨v3, rfl, hr3, b3⟩;have hb3 := hi_ (hb2'.out.trans (b3.out.mono hb2'.out.size));have hfl : (ni by_).length ≤ (by_).length := yn flt _;have hin : Hid (Ed l 0 by_ = by_) := hi_ (rfl);obtain ⟨F, hF⟩ : ∃ F, Hid (F = ni by_) := ⟨_, hi_ rfl⟩;have hr3' : Hid (za w.heap.size w3 v3 F) := hi_ (by rw [hF.out]; exact hr3.out.mono hb2'.out.size);rw [← hF.out] at hfl;have hFI : Hid (F = ni (Ed l 0 by_)) := hi_ (by rw [hF.out, hin.out]);clear hr3 b3 hcc hin hF;obtain ⟨a3, c3, rfl⟩ : ∃ a c, v3 = .slice a F.length c := by
   obtain ⟨a, c, h, _⟩ := hr3'.out; exact ⟨a, c, h⟩
  have hF40 : F.length ≤ 40 := by
   refine ed hfl ?_;omega
  clear hfl;by_cases h16 : 16 < F.length
  ·go_wp2_with fail;go_ret2
   exact Pv hokk.out (by rw [← hFI.out]; exact h16) hb3.out
  go_wp2_with fail;go_ret2
  exact Yk hokk.out (by rw [← hFI.out]; exact h16) (by rw [← hFI.out]; exact hr3'.out) hb3.out
 ·have hcc := (hc.out w2 hb2.out).2.1;go_wp2_with fail;refine (ci_ _ _ l by_ w2 hr2.out hu2.out (by omega) (by omega)).mono ?_;rintro e w3 ⟨v3, rfl, hr3, b3⟩;have hb3 := hi_ (hb2'.out.trans (b3.out.mono hb2'.out.size));have hfl : (ni (l ++ by_)).length ≤ ((l ++ by_)).length := yn flt _;have hin : Hid (Ed l 1 by_ = (l ++ by_)) := hi_ (rfl);obtain ⟨F, hF⟩ : ∃ F, Hid (F = ni (l ++ by_)) := ⟨_, hi_ rfl⟩;have hr3' : Hid (za w.heap.size w3 v3 F) := hi_ (by rw [hF.out]; exact hr3.out.mono hb2'.out.size);rw [← hF.out] at hfl;have hFI : Hid (F = ni (Ed l 1 by_)) := hi_ (by rw [hF.out, hin.out]);clear hr3 b3 hcc hin hF;obtain ⟨a3, c3, rfl⟩ : ∃ a c, v3 = .slice a F.length c := by
   obtain ⟨a, c, h, _⟩ := hr3'.out; exact ⟨a, c, h⟩
  have hF40 : F.length ≤ 40 := by
   refine ed hfl ?_;simp; omega
  clear hfl;by_cases h16 : 16 < F.length
  ·go_wp2_with fail;go_ret2
   exact Pv hokk.out (by rw [← hFI.out]; exact h16) hb3.out
  go_wp2_with fail;go_ret2
  exact Yk hokk.out (by rw [← hFI.out]; exact h16) (by rw [← hFI.out]; exact hr3'.out) hb3.out
 have hcc := (hc.out w2 hb2.out).2.2;go_wp2_with fail;refine (Ub _ _ l by_ w2 hr2.out hu2.out (by omega) (by omega)).mono ?_;rintro e w3 ⟨v3, rfl, hr3, b3⟩;have hb3 := hi_ (hb2'.out.trans (b3.out.mono hb2'.out.size));have hfl : (ni (l.filter fun x => !decide (x ∈ by_))).length ≤ ((l.filter fun x => !decide (x ∈ by_))).length := yn flt _;have hin : Hid (Ed l 2 by_ = (l.filter fun x => !decide (x ∈ by_))) := hi_ (qa_ l by_);obtain ⟨F, hF⟩ : ∃ F, Hid (F = ni (l.filter fun x => !decide (x ∈ by_))) := ⟨_, hi_ rfl⟩;have hr3' : Hid (za w.heap.size w3 v3 F) := hi_ (by rw [hF.out, Su hR.out]; have h := hr3.out; rw [ad_ hR.out] at h; exact h.mono hb2'.out.size);rw [← hF.out] at hfl;have hFI : Hid (F = ni (Ed l 2 by_)) := hi_ (by rw [hF.out, hin.out]);clear hr3 b3 hcc hin hF;obtain ⟨a3, c3, rfl⟩ : ∃ a c, v3 = .slice a F.length c := by
  obtain ⟨a, c, h, _⟩ := hr3'.out; exact ⟨a, c, h⟩
 have hF40 : F.length ≤ 40 := by
  refine ed hfl ?_;exact ed (lw _ _) (by omega)
 clear hfl;by_cases h16 : 16 < F.length
 ·go_wp2_with fail;go_ret2
  exact Pv hokk.out (by rw [← hFI.out]; exact h16) hb3.out
 go_wp2_with fail;go_ret2
 exact Yk hokk.out (by rw [← hFI.out]; exact h16) (by rw [← hFI.out]; exact hr3'.out) hb3.out
end
section
open Go.RowKit
def Cj (ls : List Lt) (q : Rq) (x : Lt) : Bool := l_ ls q x && (q.has && decide (q.since < x.mod))
def Aw (ls : List Lt) (q : Rq) (x : Lt) : Bool := l_ ls q x && !(q.has && decide (q.since < x.mod))
def ut (ls : List Lt) (q : Rq) (x : Lt) : Bool := Aw ls q x && !decide (Ao x.flags q.how q.flags = x.flags)
def qz (ls : List Lt) (q : Rq) (x : Lt) : Bool := Aw ls q x && !decide (zl x.flags q.how q.flags = 0)
def Ba (ls : List Lt) (q : Rq) (h : Nat) (x : Lt) : Lt := if ut ls q x then { x with flags := Ao x.flags q.how q.flags, mod := h + 1 } else x
def zg (ls : List Lt) (q : Rq) (j : Nat) : List Nat := ((ls.take j).filter (Aw ls q)).map Lt.uid
def zf (ls : List Lt) (q : Rq) (j : Nat) : List Nat := ((ls.take j).filter (Cj ls q)).map Lt.uid
def pz (ls : List Lt) (q : Rq) (o : Oc) (j : Nat) : Oc := { o with h_ := o.h_ ++ zg ls q j, vw := o.vw ++ zf ls q j }
def pg (m : Ml) (q : Rq) (o : Oc) : Int × Ml × Oc := match uf m q with
 | none => (6, m, o)
 | some i => match m.boxes[i]? with
  | none => (6, m, o)
  | some b =>
   if kr q.flags = false ∨ q.how < 0 ∨ 2 < q.how then (1, m, o)
   else if b.letters.any (qz b.letters q) then (7, m, o)
   else if b.letters.any (ut b.letters q) = false then (0, m, pz b.letters q o b.letters.length)
   else if 9223372036854775807 ≤ b.high then (13, m, o)
   else (0, qj m i { b with high := b.high + 1, letters := b.letters.map (Ba b.letters q b.high) }, pz b.letters q o b.letters.length)
def Az (W0 : World) (wb : Nat) (q : Rq) (y : RqV) (res : Int × Ml × Oc) (e : Ending) (w' : World) : Prop := ∃ o', (res.1 = 0 → o' = res.2.2) ∧ mr W0 wb q y (res.1, res.2.1, o') e w'
theorem Az.of {W0 : World} {wb : Nat} {q : Rq} {y : RqV} {res : Int × Ml × Oc} {n : Int} {m : Ml} {o : Oc} {e : Ending} {w' : World} (h : res = (n, m, o)) {o' : Oc} (ho : n = 0 → o' = o) (h2 : mr W0 wb q y (n, m, o') e w') : Az W0 wb q y res e w' := by
 subst h;exact ⟨o', ho, h2⟩
theorem mr.two {W0 : World} {wb : Nat} {q : Rq} {y : RqV} {res : Int × Ml × Oc} {e : Ending} {w' : World} (h : mr W0 wb q y res e w') : Az W0 wb q y res e w' := ⟨res.2.2, fun _ => rfl, h⟩
structure Hf (ls : List Lt) (q : Rq) (h : Nat) (S0 S : List (Value × List (List UInt8))) (nx : List LtV) (ch : Bool) (j : Nat) : Prop where
 now : nx.map LtV.x = (ls.take j).map (Ba ls q h) ++ ls.drop j
 has : Hg S nx
 sub : ∀ p ∈ S0, p ∈ S
 ch : ch = (ls.take j).any (ut ls q)
 good : (ls.take j).any (qz ls q) = false
section
variable {ls : List Lt} {q : Rq} {h : Nat} {S0 S : List (Value × List (List UInt8))} {nx : List LtV} {ch : Bool} {j : Nat}
theorem Hf.len (s : Hf ls q h S0 S nx ch j) : nx.length = ls.length := by
 have := jk List.length s.now;rw [az, bz, az, bf, iq] at this;omega
theorem Hf.at_ (s : Hf ls q h S0 S nx ch j) (hj : j < ls.length) : (nx[j]'(by rw [s.len]; exact hj)).x = ls[j] := by
 have h1 : (nx.map LtV.x)[j]? = ls[j]? := by
  rw [s.now, lu (by rw [az, bf]; omega), az, bf, List.getElem?_drop];congr 1; omega
 rw [ji, ay (by rw [s.len]; exact hj), ay hj] at h1;exact jc h1
theorem Hf.start {nx : List LtV} (h1 : nx.map LtV.x = ls) (h2 : Hg S0 nx) : Hf ls q h S0 S0 nx false 0 := ⟨by simpa using h1, h2, fun _ hp => hp, rfl, rfl⟩
theorem Hf.skip (s : Hf ls q h S0 S nx ch j) (hj : j < ls.length) (hd : ut ls q ls[j] = false) (hf : qz ls q ls[j] = false) : Hf ls q h S0 S nx ch (j + 1) := by
 refine ⟨?_, s.has, s.sub, ?_, ?_⟩
 ·rw [s.now, ak hj, fo, pu hj, jd];simp [Ba, hd]
 ·rw [ak hj, zt, ← s.ch]; simp [hd]
 rw [ak hj, zt, s.good]; simp [hf]
theorem Hf.turn (s : Hf ls q h S0 S nx ch j) (hj : j < ls.length) (hd : ut ls q ls[j] = true) (hf : qz ls q ls[j] = false) (z : LtV) (hz : z.x = { ls[j] with flags := Ao ls[j].flags q.how q.flags, mod := h + 1 }) : Hf ls q h S0 ((z.v, z.x.flags) :: S) (nx.set j z) true (j + 1) := by
 refine ⟨?_, fun w hw => ?_, fun p hp => jh _ (s.sub p hp), ?_, ?_⟩
 ·rw [cc_, s.now, hz, ak hj, fo, pu hj, jd, t_ _ _ (by rw [az, bf]; omega), az, bf, show j - min j ls.length = 0 from by omega, List.set_cons_zero];simp [Ba, hd]
 ·rcases lh hw with hw | rfl
  ·exact jh _ (s.has w hw)
  exact wu ..
 ·rw [ak hj, zt]; simp [hd]
 rw [ak hj, zt, s.good]; simp [hf]
theorem Hf.more (s : Hf ls q h S0 S nx ch j) (p : Value × List (List UInt8)) : Hf ls q h S0 (p :: S) nx ch j :=
 ⟨s.now, fun w hw => jh _ (s.has w hw), fun p hp => jh _ (s.sub p hp), s.ch, s.good⟩
theorem bj_ (hj : j < ls.length) (hd : Aw ls q ls[j] = true) : zg ls q (j + 1) = zg ls q j ++ [ls[j].uid] := by
 unfold zg;rw [ak hj, kv]; simp [hd]
theorem Vn (hj : j < ls.length) (hd : Aw ls q ls[j] = false) : zg ls q (j + 1) = zg ls q j := by
 unfold zg;rw [ak hj, kv]; simp [hd]
theorem ay_ (hj : j < ls.length) (hd : Cj ls q ls[j] = true) : zf ls q (j + 1) = zf ls q j ++ [ls[j].uid] := by
 unfold zf;rw [ak hj, kv]; simp [hd]
theorem Vd (hj : j < ls.length) (hd : Cj ls q ls[j] = false) : zf ls q (j + 1) = zf ls q j := by
 unfold zf;rw [ak hj, kv]; simp [hd]
theorem bk_ (ls : List Lt) (q : Rq) (j : Nat) : (zg ls q j).length ≤ ls.length := by
 unfold zg;rw [az];exact ed (lw _ _) (by rw [bf]; omega)
theorem az_ (ls : List Lt) (q : Rq) (j : Nat) : (zf ls q j).length ≤ ls.length := by
 unfold zf;rw [az];exact ed (lw _ _) (by rw [bf]; omega)
end
theorem Ro (l : List (List UInt8)) (how : Int) (by_ : List (List UInt8)) : (Ao l how by_).length ≤ 16 := by
 unfold Ao;split
 ·split
  ·exact dw _
  omega
 exact dw _
theorem Zoo.hy_ {W0 W : World} {L : List Th} {a : Th} (h : Zoo W0 W (a :: L)) (i : Nat) (hi : i < L.length) : Zoo W0 W (L.set i a) :=
 Zoo.back i hi (h.sub (gz _ (Gb _ _)))
theorem Zoo.gt_ {W0 W W' : World} {L : List Th} {S : List (Value × List (List UInt8))} (h : Zoo W0 W L) (i : Nat) (hi : L[i]? = some (ma S)) {v : Value} {l : List (List UInt8)} (hb : Below W.heap.size W W') (hr : za W.heap.size W' v l) : Zoo W0 W' (L.set i (ma ((v, l) :: S))) := by
 obtain ⟨ao, cap, rfl, hr⟩ := hr;rcases hr with rfl | ⟨g, rfl, hg, hgl, hc, hh⟩
 ·obtain ⟨F, h1, hlow, hact⟩ := (h.below hb).act i _ hi;refine hact _ F W' ⟨h1.1, fun p hp => ?_⟩ (Ej.of_below (ae _ _));rcases d_.1 hp with rfl | hp
  ·exact ⟨ao, cap, rfl, .inl rfl⟩
  exact h1.2 p hp
 exact h.Rz i hi hb (za.rd (B := 0) ⟨_, cap, rfl, .inr ⟨g, rfl, dw _, hgl, hc, hh⟩⟩) (fun g' hg' => by
  have : g = g' := jc (show some g = some g' from hg');omega)
end
end Go.Proofs.YtdobbfjmlnlieaaGreat
