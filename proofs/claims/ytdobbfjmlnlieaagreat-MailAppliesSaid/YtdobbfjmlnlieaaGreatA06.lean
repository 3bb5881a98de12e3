/- slices; named, meant: walked; A work's mailboxes turned one by one: plain; Loads and stores of many cells at once; The document's side of flags, walked: Canon, place, less, Ha; Lists of flags that the call makes: With, Make of both, Same; Make, of the program and of the document; Same; Print; what e -/
import Derived.Test.YtdobbfjmlnlieaaGreatA01
import Derived.Test.YtdobbfjmlnlieaaGreatA04
import Derived.Test.YtdobbfjmlnlieaaGreatA05
import Derived.Shelf.RegionOpenPlain
import Derived.Deep.RegionLaw
import Derived.Test.YtdobbfjmlnlieaaGreatA03
import Derived.Deep.QuietTactic
import Derived.BigQuiet
namespace Go.Proofs.YtdobbfjmlnlieaaGreat
set_option linter.unusedSimpArgs false
namespace Tryz
end Tryz
open Go.Proofs.Tryz Go.Proofs.YtdobbfjmlnlieaaGreat.Tryz
section
open Go.RowKit
attribute [local go_sem ↓] Go.wp_at_zero Go.wp_at_succ
section
variable {α : Type} {R : RT α}
theorem RT.PR.lay {W : World} {g : Nat} {l : List α} {rest : List Value} (h : R.PR W g l rest) (news : List α) (i : Nat) (hi : i + news.length ≤ l.length) : R.PR (W.setCells g (i * R.K) (R.cells news)) g (l.take i ++ news ++ l.drop (i + news.length)) rest := by
 have hll : i * R.K + news.length * R.K ≤ l.length * R.K := by rw [← Nat.add_mul]; exact kz _ hi
 have hln : (R.cells news).length = news.length * R.K := R.kg _;unfold RT.PR;rw [zi _ _ _ _ h (by rw [hln, bz, R.kg]; omega), hln];have e1 : R.cells l = R.cells (l.take i) ++ (R.cells ((l.drop i).take news.length) ++ R.cells (l.drop (i + news.length))) := by
  rw [← R.yt, ← R.yt, ← Jz, qh, qh]
 have e2 : (R.cells (l.take i)).length = i * R.K := by rw [R.kg, bf]; congr 1; omega
 have e2b : (R.cells ((l.drop i).take news.length)).length = news.length * R.K := by rw [R.kg, bf, iq]; congr 1; omega
 have e3 : (R.cells l ++ rest).take (i * R.K) = R.cells (l.take i) := by
  rw [e1, jd, Hl (by rw [e2]; exact ax _), jr (by rw [e2]; exact ax _)]
 have e4 : (R.cells l ++ rest).drop (i * R.K + news.length * R.K) = R.cells (l.drop (i + news.length)) ++ rest := by
  rw [e1, ← jd, jd, List.drop_left' (by rw [bz, e2, e2b])]
 rw [e3, e4, R.yt, R.yt];simp only [jd]
theorem Zoo.lay {W0 W : World} {L : List Th} {v : Value} {l : List α} (h : Zoo W0 W L) (i : Nat) (hi : L[i]? = some (R.row v l)) (news : List α) (k : Nat) (hk : k + news.length ≤ l.length) (hl : 0 < l.length) :
  ∃ g cap, v = .slice (some ⟨g, 0, none⟩) l.length cap ∧ l.length ≤ cap ∧ (∀ j r, (hj : j < l.length) → r < R.K → W.cell? ⟨g, j * R.K + r, none⟩ = (R.enc l[j])[r]?) ∧ (∀ j, W.frozen? ⟨g, j, none⟩ = false) ∧ Zoo W0 (W.setCells g (k * R.K) (R.cells news)) (L.set i (R.row v (l.take k ++ news ++ l.drop (k + news.length)))) := by
 obtain ⟨F, ⟨ho, hF⟩, hlow, hact⟩ := h.act i _ hi;obtain ⟨g, cap, rest, rfl, hc, hg, hrow, hback⟩ := ho.row hl;have hln : (l.take k ++ news ++ l.drop (k + news.length)).length = l.length := by simp only [bz, bf, iq]; omega
 have h2 := hback _ _ l.length (ax _) hln (hrow.lay news k hk);rw [jr (by rw [hln]; exact ax _)] at h2;have hkb : o_ W g (W.setCells g (k * R.K) (R.cells news)) := o_.sets _ _ (o_.refl W g);exact ⟨g, cap, rfl, hc, fun j r hj hr => hrow.cell j r hj hr, hrow.free, hact _ F _ ⟨h2, hF⟩ (hkb.grows hF rfl)⟩
end
theorem dv_ {α : Type} (l : List α) (i : Nat) (hi : i < l.length) : (l.take i ++ l.drop (i + 1) ++ l.drop (i + (l.drop (i + 1)).length)).take (i + (l.length - (i + 1))) = l.take i ++ l.drop (i + 1) :=
 List.take_left' (by rw [bz, bf, iq]; omega)
set_option maxRecDepth 100000 in
set_option maxHeartbeats 8000000 in
theorem Yn {W0 W : World} {L : List Th} (v : Value) (l : List BxV) (i : Nat) (hi : i < l.length) (hlen : l.length ≤ 100000) (hz : Zoo W0 W (bxT.row v l :: L)) :
  Calls prog 86 #[v, .int .i64 i, .int .i64 ((i : Int) + 1)] W fun e w' => ∃ v', e = .returned v' ∧ Hid (Zoo W0 w' (bxT.row v' (l.take i ++ l.drop (i + 1)) :: L)) := by
 have hdl : (l.drop (i + 1)).length = l.length - (i + 1) := iq;obtain ⟨g, cap, rfl, hcap, hcell, hfr, hz1⟩ := hz.drew.lay 0 rfl (l.drop (i + 1)) i (by rw [hdl]; omega) (by omega);rw [show bxT.K = 5 from rfl] at hz1 hcell;obtain ⟨i0, hi0, hz0, hz2, hz3⟩ := info_parts bxT.info;have s1 : Hid ((bxT.cells (l.drop (i + 1))).length = (l.length - (i + 1)) * 5) := hi_ (by rw [bxT.kg, hdl]; rfl);obtain ⟨A, hA, hsrc⟩ : ∃ A : Addr, (if cap = i + 1 then some (⟨g, 0, none⟩ : Addr) else some ⟨g, (i + 1) * 5, none⟩) = some A ∧ Hid (∀ t u, (bxT.cells (l.drop (i + 1)))[t]? = some u → W.drew.cell? (A.add t) = some u) := by
  by_cases h : cap = i + 1
  ·refine ⟨⟨g, 0, none⟩, by simp [h], hi_ (fun t u hu => ?_)⟩;rw [List.drop_of_length_le (by omega)] at hu;simp [RT.cells] at hu
  refine ⟨⟨g, (i + 1) * 5, none⟩, by simp [h], hi_ (fun t u hu => ?_)⟩;have ht : t < (l.length - (i + 1)) * 5 := by
   have := (jl.1 hu).1;rwa [s1.out] at this
  obtain ⟨m, r, hr, rfl⟩ : ∃ m r, r < 5 ∧ t = m * 5 + r := ⟨t / 5, t % 5, Gs _ (by decide), by omega⟩;have hm : m < (l.drop (i + 1)).length := by rw [hdl]; omega
  have h1 := bxT.yo (l.drop (i + 1)) m hm r hr;rw [show bxT.K = 5 from rfl] at h1;rw [h1, Lc] at hu;rw [zx, show (i + 1) * 5 + (m * 5 + r) = (i + 1 + m) * 5 + r from by omega, hcell (i + 1 + m) r (by rw [hdl] at hm; omega) hr];exact hu
 have s2 : Hid (∀ u ∈ bxT.cells (l.drop (i + 1)), u.oneCell' = true) := hi_ (bxT.cells_one _);have s3 : Hid (∀ t, t < (bxT.cells (l.drop (i + 1))).length → (W.drew.cell? ⟨g, 0 + i * 5 + t, none⟩).isSome = true ∧ W.drew.frozen? ⟨g, 0 + i * 5 + t, none⟩ = false) := hi_ (fun t ht => by
  rw [s1.out] at ht;refine ⟨?_, hfr _⟩;obtain ⟨m, r, hr, rfl⟩ : ∃ m r, r < 5 ∧ t = m * 5 + r := ⟨t / 5, t % 5, Gs _ (by decide), by omega⟩;have h1 := hcell (i + m) r (by omega) hr;rw [show 0 + i * 5 + (m * 5 + r) = (i + m) * 5 + r from by omega, h1, ay (by rw [bxT.len]; exact hr)]; rfl)
 have hlay : (l.take i ++ l.drop (i + 1) ++ l.drop (i + (l.drop (i + 1)).length)).length = l.length := by simp only [bz, bf, iq]; omega
 obtain ⟨W1, hW1⟩ : ∃ W1, W.drew.setCells g (i * 5) (bxT.cells (l.drop (i + 1))) = W1 := ⟨_, rfl⟩;rw [hW1] at hz1;obtain ⟨g2, cap2, hv, -, hcl, hz4⟩ := hz1.clear 0 rfl (⟨⟨#[]⟩, 0, 0, 0, [], none, 0⟩ : BxV) rfl (i + (l.length - (i + 1))) (l.length - (i + (l.length - (i + 1)))) (by omega) (by show _ = List.length _; rw [hlay]; omega);rw [show bxT.K = 5 from rfl] at hz4 hcl;injection hv with e1 e2 e3;injection e1 with e1;injection e1 with e1;subst e1 e3;rw [dv_ l i hi] at hz4;have hW : Hid (W1 = W.drew.setCells g (0 + i * 5) (bxT.cells (l.drop (i + 1)))) := hi_ (by rw [di]; exact hW1.symm);have hcl2 := fun ty => hcl (cap - (i + (l.length - (i + 1)))) ty;generalize W1.setCells g ((i + (l.length - (i + 1))) * 5) (bxT.cells (List.replicate (l.length - (i + (l.length - (i + 1)))) (⟨⟨#[]⟩, 0, 0, 0, [], none, 0⟩ : BxV))) = W2 at hcl2 hz4;replace hz4 := hi_ hz4;replace hcl2 : ∀ ty, (Builtin.clear_ #[22] ty #[.slice (some ⟨g, (i + (l.length - (i + 1))) * 5, none⟩) (l.length - (i + (l.length - (i + 1)))) (cap - (i + (l.length - (i + 1))))]).run prog W1 = .ok (.tuple #[]) W2 := hcl2;have hic : i ≤ cap := by omega
 have hjc : i + 1 ≤ cap := by omega
 have mixed : prog.follows Departure.mixedOrders = true := by kernel_rfl
 have b1 : (0 : Int) ≤ (i : Int) + 1 := by omega
 have b2 : (i : Int) + 1 ≤ (l.length : Int) := by omega
 clear hz hz1 hcell hfr hlay hcl hW1 hdl hz0 hz3 e2;generalize bxT.cells (l.drop (i + 1)) = news at *;go_enter func86, ntmps86;go_wp2_with fail;go_region_law_o (refine step_append_room rfl (.tmp 22) (.tmp 25) 22 rfl 48 i0 5 underlying22 hi0 hz2 g 0 i cap (by simp [Act.eval, Act.put]) A (l.length - (i + 1)) (cap - (i + 1)) news (by simp [Act.eval, Act.put]) s1.out hsrc.out s2.out (by omega) s3.out ?_; rw [← hW.out])
 go_wp2_with fail;go_ret;exact ⟨_, rfl, hz4⟩
def atM (name : ByteArray) (m : Ml) : Int := ry (fun x => x.name.toList == name.toList) m.boxes
theorem Ph {α β : Type} (f : α → β) (p : β → Bool) (l : List α) : ry p (l.map f) = ry (fun x => p (f x)) l := by
 unfold ry;rw [List.findIdx?_map]; rfl
theorem ho_ {name : ByteArray} {k : WkV} {m : Ml} (h : wm k m) : atB name k.bs = atM name m := by
 unfold atB atM;rw [← h.1, Ph]; rfl
theorem wm.len {k : WkV} {m : Ml} (h : wm k m) : k.bs.length = m.boxes.length := by rw [← h.1, az]
theorem Wx {W0 W : World} {wb : Nat} {k : WkV} {m : Ml} {q : Rq} {y : RqV} {o : Oc} (hz : Zoo W0 W (ik wb k m q y o)) : Rd W (.slice k.ab k.bs.length k.cb) k.bs.length (bxT.cells k.bs) := (hz.own 3 rfl).rd
theorem Nu {W0 W : World} {wb : Nat} {k : WkV} {m : Ml} {q : Rq} {y : RqV} {o : Oc} (hz : Zoo W0 W (ik wb k m q y o)) (hk : wm k m) (hl : m.boxes.length ≤ 1000) (name : ByteArray) :
  Calls prog 56 #[.agg #[.slice k.ab k.bs.length k.cb, .int .u64 m.nv, .slice k.ah m.homes.length k.ch, .slice k.as_ m.seats.length k.cs, .int .u64 m.ns, .int .u64 m.a_], .string name] W (Cx W (atM name m)) := by
 have := ek_ k.ab k.ah k.as_ k.cb m.homes.length k.ch m.seats.length k.cs m.nv m.ns m.a_ k.bs name (Wx hz) (by rw [hk.len]; omega);rw [ho_ hk] at this;exact this
theorem Zoo.lets {W0 W : World} {a b c d e f g : Th} {l l' : List Th} (h : Zoo W0 W (a :: b :: c :: d :: e :: f :: g :: l)) (hs : l'.Sublist l) : Zoo W0 W (a :: b :: c :: d :: e :: f :: g :: l') :=
 h.sub (((((((hs.cons_cons g).cons_cons f).cons_cons e).cons_cons d).cons_cons c).cons_cons b).cons_cons a)
theorem mi {α : Type} (p : α → Bool) (l : List α) : (l.findIdx? p = none ∧ ry p l = -1) ∨ ∃ (i : Nat) (_ : i < l.length), l.findIdx? p = some i ∧ ry p l = (i : Int) := by
 unfold ry;cases h : l.findIdx? p with
 | none => exact .inl ⟨rfl, rfl⟩
 | some i => exact .inr ⟨i, (jm.1 h).1, rfl, rfl⟩
def uo (m : Ml) (q : Rq) (o : Oc) : Int × Ml × Oc :=
 if q.box.toList == Ag then (1, m, o) else match m.boxes.findIdx? (fun x => x.name.toList == q.box.toList) with
 | none => (6, m, o)
 | some i => (0, { m with boxes := m.boxes.take i ++ m.boxes.drop (i + 1) }, o)
set_option maxRecDepth 100000 in
set_option maxHeartbeats 8000000 in
theorem Xm {W0 W : World} {wb : Nat} {k : WkV} {m : Ml} {q : Rq} {y : RqV} {o : Oc} (hz : Zoo W0 W (ik wb k m q y o)) (hk : wm k m) (hl : m.boxes.length ≤ 1000) :
  Calls prog 38 #[.pointer (some ⟨wb, 0, none⟩)] W (mr W0 wb q y (uo m q o)) := by
 have hat := hi_ (Nu hz.drew hk hl q.box);obtain ⟨hbx, -⟩ := hz.drew.box 0 rfl;have k0 : W.drew.cell? ⟨wb, 0, none⟩ = some (.slice k.ab k.bs.length k.cb) := bc_ hbx 0;have k1 : W.drew.cell? ⟨wb, 1, none⟩ = some (.int .u64 m.nv) := bc_ hbx 1;have k2 : W.drew.cell? ⟨wb, 2, none⟩ = some (.slice k.ah m.homes.length k.ch) := bc_ hbx 2;have k3 : W.drew.cell? ⟨wb, 3, none⟩ = some (.slice k.as_ m.seats.length k.cs) := bc_ hbx 3;have k4 : W.drew.cell? ⟨wb, 4, none⟩ = some (.int .u64 m.ns) := bc_ hbx 4;have k5 : W.drew.cell? ⟨wb, 5, none⟩ = some (.int .u64 m.a_) := bc_ hbx 5;have k12 : W.drew.cell? ⟨wb, 12, none⟩ = some (.string q.box) := bc_ hbx 12;replace hk := hi_ hk;replace hz := hi_ hz.drew;clear hbx;go_enter func38, ntmps38;go_wp2_with fail;refine wr_ (fun w' => w'.cell? ⟨wb, 0, none⟩ = some (.slice k.ab k.bs.length k.cb) ∧ w'.cell? ⟨wb, 1, none⟩ = some (.int .u64 m.nv) ∧ w'.cell? ⟨wb, 2, none⟩ = some (.slice k.ah m.homes.length k.ch) ∧ w'.cell? ⟨wb, 3, none⟩ = some (.slice k.as_ m.seats.length k.cs) ∧ w'.cell? ⟨wb, 4, none⟩ = some (.int .u64 m.ns) ∧ w'.cell? ⟨wb, 5, none⟩ = some (.int .u64 m.a_) ∧ w'.cell? ⟨wb, 12, none⟩ = some (.string q.box)) 10 1 ⟨k0, k1, k2, k3, k4, k5, k12⟩ fun hok hS0 => ?_;refine av hok 0 ?_;refine av hok 1 ?_;refine av hok 2 ?_;refine av hok 3 ?_;refine av hok 4 ?_;refine av hok 5 ?_;refine av hok 6 ?_;refine av hok 7 ?_;refine av hok 8 ?_;refine g_ 9 fun K hK => ?_;go_simp;refine hat.out.mono ?_;rintro e w3 ⟨rfl, hb3⟩;dsimp only;have hz3 := hz.out.below hb3.out;obtain ⟨hbx, -⟩ := hz3.box 0 rfl;clear k0 k1 k2 k3 k4 k5 k12;have k0 : w3.cell? ⟨wb, 0, none⟩ = some (.slice k.ab k.bs.length k.cb) := bc_ hbx 0;have k1 : w3.cell? ⟨wb, 1, none⟩ = some (.int .u64 m.nv) := bc_ hbx 1;have k2 : w3.cell? ⟨wb, 2, none⟩ = some (.slice k.ah m.homes.length k.ch) := bc_ hbx 2;have k3 : w3.cell? ⟨wb, 3, none⟩ = some (.slice k.as_ m.seats.length k.cs) := bc_ hbx 3;have k4 : w3.cell? ⟨wb, 4, none⟩ = some (.int .u64 m.ns) := bc_ hbx 4;have k5 : w3.cell? ⟨wb, 5, none⟩ = some (.int .u64 m.a_) := bc_ hbx 5;have k12 : w3.cell? ⟨wb, 12, none⟩ = some (.string q.box) := bc_ hbx 12;refine hK _ _ ⟨k0, k1, k2, k3, k4, k5, k12⟩ ?_;clear hK K;refine kw ?_;clear hat hz hok hS0 hb3 k1 k2 k3 k4 k5;cases hin : (q.box.toList == [73, 78, 66, 79, 88]) with
 | true =>
  have hr : Hid (uo m q o = (1, m, o)) := hi_ (by unfold uo Ag; rw [hin, dh rfl]);replace hz3 := hi_ hz3;clear hbx;go_wp2_with fail;go_ret;exact mr.of hr.out ⟨k, rfl, hk, hz3⟩
 | false =>
  unfold atM;rcases mi (fun x : Bx => x.name.toList == q.box.toList) m.boxes with ⟨e1, e2⟩ | ⟨i, hi, e1, e2⟩
  ·rw [e2];have hr : Hid (uo m q o = (6, m, o)) := hi_ (by unfold uo Ag; rw [hin, e1]; rfl);replace hz3 := hi_ hz3;clear hbx e2 e1;go_wp2_with fail;go_ret;exact mr.of hr.out ⟨k, rfl, hk, hz3⟩
  rw [e2];have hr : Hid (uo m q o = (0, { m with boxes := m.boxes.take i ++ m.boxes.drop (i + 1) }, o)) := hi_ (by unfold uo Ag; rw [hin, e1]; rfl);have hil : i < k.bs.length := by rw [hk.out.len]; exact hi
  have hdel := hi_ (Yn (.slice k.ab k.bs.length k.cb) k.bs i hil (by rw [hk.out.len]; omega) (hz3.front 3 rfl));replace hz3 := hi_ hz3;have hi0 : (0 : Int) ≤ (i : Int) := by omega
  clear hbx e2 e1;go_wp2_with fail;refine hdel.out.mono ?_;rintro e w4 ⟨v4, rfl, hz4⟩;obtain ⟨a4, c4, hv4⟩ := (hz4.out.own 0 rfl).len;subst hv4;have hz5 := Zoo.back (L := ik wb k m q y o) 3 (by show 3 < _ + 7; omega) hz4.out;obtain ⟨hbx, -⟩ := hz5.box 0 rfl;have k0 : w4.cell? ⟨wb, 0, none⟩ = some (.slice k.ab k.bs.length k.cb) := bc_ hbx 0;have f0 := bf_ hbx 0;have hz6 := hz5.il 0 rfl 0 (.slice a4 (k.bs.take i ++ k.bs.drop (i + 1)).length c4);have hk2 : Hid (wm { k with ab := a4, cb := c4, bs := k.bs.take i ++ k.bs.drop (i + 1) } { m with boxes := m.boxes.take i ++ m.boxes.drop (i + 1) }) := hi_ (by
   refine ⟨?_, fun z hz => ?_⟩
   ·show (k.bs.take i ++ k.bs.drop (i + 1)).map BxV.b = _;rw [fo, List.map_take, List.map_drop, hk.out.1]
   rcases fe.1 hz with h | h
   ·exact hk.out.2 z (Cr h)
   exact hk.out.2 z (Hq h))
  replace hz6 : Hid (Zoo W0 (w4.setCell ⟨wb, 0, none⟩ (.slice a4 (k.bs.take i ++ k.bs.drop (i + 1)).length c4)) (ik wb { k with ab := a4, cb := c4, bs := k.bs.take i ++ k.bs.drop (i + 1) } { m with boxes := m.boxes.take i ++ m.boxes.drop (i + 1) } q y o)) := hi_ (Zoo.lets hz6 (by
   show ((k.bs.take i ++ k.bs.drop (i + 1)).map fun y => ltT.row y.v y.rows).Sublist (k.bs.map fun y => ltT.row y.v y.rows);refine List.Sublist.map _ ?_;rw [← Ga];exact Gb _ _))
  generalize (k.bs.take i ++ k.bs.drop (i + 1)).length = n at *;clear hz4 hz5 hbx;go_wp2_with fail;go_ret;exact mr.of hr.out ⟨_, rfl, hk2, hz6⟩
end
section
open Go.RowKit
attribute [local go_sem ↓] Go.wp_at_zero Go.wp_at_succ
def uf (m : Ml) (q : Rq) : Option Nat := match m.boxes.findIdx? (fun x => x.name.toList == q.box.toList) with
 | none => none
 | some i => if (m.boxes[i]?).map Bx.ag = some q.ag then some i else none
def et_ (W0 W : World) (wb : Nat) (k : WkV) (m : Ml) (q : Rq) (y : RqV) (o : Oc) (e : Ending) (w' : World) : Prop := Hid (Zoo W0 w' (ik wb k m q y o)) ∧ Hid (Below W.heap.size W w') ∧ match uf m q with
 | none => e = .returned (.tuple #[.pointer none, .bool false])
 | some i => ∃ g, k.ab = some ⟨g, 0, none⟩ ∧ e = .returned (.tuple #[.pointer (some ⟨g, i * 5, none⟩), .bool true])
theorem wm.get {k : WkV} {m : Ml} (h : wm k m) {i : Nat} (hi : i < k.bs.length) : m.boxes[i]? = some (k.bs[i].b) := by
 rw [← h.1, ji, ay hi]; rfl
set_option maxRecDepth 100000 in
set_option maxHeartbeats 8000000 in
theorem Lh {W0 W : World} {wb : Nat} {k : WkV} {m : Ml} {q : Rq} {y : RqV} {o : Oc} (hz : Zoo W0 W (ik wb k m q y o)) (hk : wm k m) (hl : m.boxes.length ≤ 1000) :
  Calls prog 89 #[.pointer (some ⟨wb, 0, none⟩)] W (et_ W0 W wb k m q y o) := by
 have hat := hi_ (Nu hz.drew hk hl q.box);obtain ⟨hbx, -⟩ := hz.drew.box 0 rfl;have k0 : W.drew.cell? ⟨wb, 0, none⟩ = some (.slice k.ab k.bs.length k.cb) := bc_ hbx 0;have k1 : W.drew.cell? ⟨wb, 1, none⟩ = some (.int .u64 m.nv) := bc_ hbx 1;have k2 : W.drew.cell? ⟨wb, 2, none⟩ = some (.slice k.ah m.homes.length k.ch) := bc_ hbx 2;have k3 : W.drew.cell? ⟨wb, 3, none⟩ = some (.slice k.as_ m.seats.length k.cs) := bc_ hbx 3;have k4 : W.drew.cell? ⟨wb, 4, none⟩ = some (.int .u64 m.ns) := bc_ hbx 4;have k5 : W.drew.cell? ⟨wb, 5, none⟩ = some (.int .u64 m.a_) := bc_ hbx 5;have k12 : W.drew.cell? ⟨wb, 12, none⟩ = some (.string q.box) := bc_ hbx 12;replace hk := hi_ hk;have hbd := hi_ ((ae W.heap.size W).drew);replace hz := hi_ hz.drew;clear hbx;go_enter func89, ntmps89;go_wp2_with fail;refine wr_ (fun w' => w'.cell? ⟨wb, 0, none⟩ = some (.slice k.ab k.bs.length k.cb) ∧ w'.cell? ⟨wb, 1, none⟩ = some (.int .u64 m.nv) ∧ w'.cell? ⟨wb, 2, none⟩ = some (.slice k.ah m.homes.length k.ch) ∧ w'.cell? ⟨wb, 3, none⟩ = some (.slice k.as_ m.seats.length k.cs) ∧ w'.cell? ⟨wb, 4, none⟩ = some (.int .u64 m.ns) ∧ w'.cell? ⟨wb, 5, none⟩ = some (.int .u64 m.a_) ∧ w'.cell? ⟨wb, 12, none⟩ = some (.string q.box)) 10 1 ⟨k0, k1, k2, k3, k4, k5, k12⟩ fun hok hS0 => ?_;refine av hok 0 ?_;refine av hok 1 ?_;refine av hok 2 ?_;refine av hok 3 ?_;refine av hok 4 ?_;refine av hok 5 ?_;refine av hok 6 ?_;refine av hok 7 ?_;refine av hok 8 ?_;refine g_ 9 fun K hK => ?_;go_simp;refine hat.out.mono ?_;rintro e w3 ⟨rfl, hb3⟩;dsimp only;have hz3 := hz.out.below hb3.out;obtain ⟨hbx, -⟩ := hz3.box 0 rfl;clear k0 k1 k2 k3 k4 k5 k12;have k0 : w3.cell? ⟨wb, 0, none⟩ = some (.slice k.ab k.bs.length k.cb) := bc_ hbx 0;have k1 : w3.cell? ⟨wb, 1, none⟩ = some (.int .u64 m.nv) := bc_ hbx 1;have k2 : w3.cell? ⟨wb, 2, none⟩ = some (.slice k.ah m.homes.length k.ch) := bc_ hbx 2;have k3 : w3.cell? ⟨wb, 3, none⟩ = some (.slice k.as_ m.seats.length k.cs) := bc_ hbx 3;have k4 : w3.cell? ⟨wb, 4, none⟩ = some (.int .u64 m.ns) := bc_ hbx 4;have k5 : w3.cell? ⟨wb, 5, none⟩ = some (.int .u64 m.a_) := bc_ hbx 5;have k12 : w3.cell? ⟨wb, 12, none⟩ = some (.string q.box) := bc_ hbx 12;refine hK _ _ ⟨k0, k1, k2, k3, k4, k5, k12⟩ ?_;clear hK K;refine kw ?_;have k14 : w3.cell? ⟨wb, 14, none⟩ = some (.int .u64 q.ag) := bc_ hbx 14;have hB := hi_ (hbd.out.trans (hb3.out.mono (ax _)));clear hat hz hok hS0 hb3 k1 k2 k3 k4 k5 k12 hbx hbd;unfold atM;rcases mi (fun x : Bx => x.name.toList == q.box.toList) m.boxes with ⟨e1, e2⟩ | ⟨i, hi, e1, e2⟩
 ·rw [e2];have hr : Hid (uf m q = none) := hi_ (by unfold uf; rw [e1]);replace hz3 := hi_ hz3;clear e2 e1;go_wp2_with fail;go_quiet (fail);go_wp2_with fail;go_ret2
  refine ⟨hi_ (hz3.out.below (qw (ae _ _) nq)), hi_ (qw hB.out nq), ?_⟩;rw [hr.out];rfl
 rw [e2];have hil : i < k.bs.length := by rw [hk.out.len]; exact hi
 have hgm := hk.out.get hil;have hnm : Hid (uf m q = if k.bs[i].ag = q.ag then some i else none) := hi_ (by
  unfold uf; rw [e1]; dsimp only; rw [hgm, Bi];simp only [Ez]; rfl)
 obtain ⟨g, cap, hv, -, hg, hcells⟩ := (hz3.own 3 rfl).cells hil;injection hv with hv1 hv2 hv3;rw [hv1] at k0;have r1 := hcells 1 (by decide);replace r1 : w3.cell? ⟨g, i * 5 + 1, none⟩ = some (.int .u64 k.bs[i].ag) := r1;generalize hxv : k.bs[i].ag = xv at r1 hnm;replace hz3 := hi_ hz3;have hi0 : (0 : Int) ≤ (i : Int) := by omega
 have hil2 : (i : Int) < (k.bs.length : Int) := by omega
 replace hv1 := hi_ hv1;clear e2 e1 hgm hcells hv2 hv3 hxv;cases hq : ((xv : Int) == (q.ag : Int)) with
 | true =>
  have hq2 : ((xv : Int) != (q.ag : Int)) = false := by simp only [bne, hq, Bool.not_true]
  go_wp2_with fail;go_quiet (fail);go_wp2_with fail;go_ret2
  refine ⟨hi_ (hz3.out.below (qw (ae _ _) nq)), hi_ (qw hB.out nq), ?_⟩;rw [hnm.out, dh (by have := eq_of_beq hq; omega)];exact ⟨g, hv1.out, rfl⟩
 | false =>
  have hq2 : ((xv : Int) != (q.ag : Int)) = true := by simp only [bne, hq, Bool.not_false]
  go_wp2_with fail;go_quiet (fail);go_wp2_with fail;go_ret2
  refine ⟨hi_ (hz3.out.below (qw (ae _ _) nq)), hi_ (qw hB.out nq), ?_⟩;rw [hnm.out, bq (fun h => by rw [h] at hq; simp at hq)];rfl
def yz (l : List Lt) : Nat := match l.getLast? with
 | none => 0
 | some x => x.uid
def l_ (l : List Lt) (q : Rq) (x : Lt) : Bool := Dn q.h_ (yz l) x.uid
theorem ak_ {l : List LtV} (h : 0 < l.length) : yz (l.map LtV.x) = (l[l.length - 1]'(by omega)).x.uid := by
 unfold yz;rw [List.getLast?_eq_getElem?, ji, az, ay (by omega)]; rfl
def Wq (W : World) (wb : Nat) (most : Nat) (e : Ending) (w' : World) : Prop := ∃ c d, e = .returned (.func (.func 123) #[] #[.pointer (some ⟨c, 0, none⟩), .pointer (some ⟨d, 0, none⟩)]) ∧ Hid (w'.heap[c]? = some (.cells #[.pointer (some ⟨wb, 0, none⟩)] 77 (0, 0)) ∧ w'.heap[d]? = some (.cells #[.int .u64 most] 23 (0, 0)) ∧ W.heap.size ≤ c ∧ W.heap.size ≤ d ∧ c ≠ d) ∧ Hid (Below W.heap.size W w')
theorem Mw (W : World) (wb n : Nat) : Wq W wb n (.returned (.func (.func 123) #[] #[.pointer (some ⟨W.heap.size, 0, none⟩), .pointer (some ⟨W.heap.size + 1, 0, none⟩)])) ((W.alloc (.cells #[.pointer (some ⟨wb, 0, none⟩)] 77)).alloc (.cells #[.int .u64 n] 23)) := by
 have hz := ((ny W).dz #[.pointer (some ⟨wb, 0, none⟩)] 77).dz #[.int .u64 n] 23;have hs1 : (W.alloc (.cells #[.pointer (some ⟨wb, 0, none⟩)] 77)).heap.size = W.heap.size + 1 := by simp
 rw [hs1] at hz;exact ⟨W.heap.size, W.heap.size + 1, rfl, hi_ ⟨(hz.box 1 rfl).1, (hz.box 0 rfl).1, ax _, by omega, by omega⟩, hi_ hz.bel⟩
set_option maxRecDepth 100000 in
set_option maxHeartbeats 8000000 in
theorem Li {W : World} {wb g i : Nat} {l : List LtV} {a : Option Addr} {c : Nat} (hb : W.cell? ⟨g, i * 5 + 4, none⟩ = some (.slice a l.length c)) (hr : Rd W (.slice a l.length c) l.length (ltT.cells l)) (hl : l.length ≤ 100000) :
  Calls prog 91 #[.pointer (some ⟨wb, 0, none⟩), .pointer (some ⟨g, i * 5, none⟩)] W (Wq W wb (yz (l.map LtV.x))) := by
 have hglt := fu _ _ hb;dsimp only at hglt;have hg1 : g ≠ W.heap.size := by omega
 have hg2 : g ≠ W.heap.size + 1 := by omega
 rcases n_ l.length with h0 | hpos
 ·have e0 : l = [] := eu h0;subst e0;clear hr h0;rw [List.length_nil] at hb;go_enter func91, ntmps91;go_wp2_with fail;go_ret;exact Mw W wb 0
 have hm := ak_ hpos;obtain ⟨b, o, cap, hv, -, hblt, hcells⟩ := ltT.ow hr (show l.length - 1 < l.length from by omega);injection hv with hv1 hv2 hv3;subst hv1 hv3;have r0 := hcells 0 (.int .u64 (l[l.length - 1]'(by omega)).x.uid) rfl;replace r0 : W.cell? ⟨b, o + (l.length - 1) * 5, none⟩ = some (.int .u64 (l[l.length - 1]'(by omega)).x.uid) := r0;rw [← hm] at r0;generalize yz (l.map LtV.x) = most at *;have hb1 : b ≠ W.heap.size := by omega
 have hb2 : b ≠ W.heap.size + 1 := by omega
 have hp1 : (0 : Int) < (l.length : Int) := by omega
 have hp2 : (0 : Int) ≤ (l.length : Int) - 1 := by omega
 have hp3 : (l.length : Int) - 1 < (l.length : Int) := by omega
 clear hcells hr hm;go_enter func91, ntmps91;go_wp2_with fail;go_ret;exact Mw W wb most
set_option maxRecDepth 100000 in
set_option maxHeartbeats 8000000 in
theorem Jn {W : World} (x : LtV) (c d wb : Nat) (rs : List (Nat × Nat)) (au : Option Addr) (cu most : Nat) (h1 : W.cell? ⟨c, 0, none⟩ = some (.pointer (some ⟨wb, 0, none⟩))) (h2 : W.cell? ⟨wb, 15, none⟩ = some (.slice au rs.length cu)) (h3 : W.cell? ⟨d, 0, none⟩ = some (.int .u64 most)) (hr : p_ W W.heap.size (.slice au rs.length cu) rs) (hl : rs.length ≤ 100000) :
  Calls prog 123 #[.agg (ltT.enc x).toArray, .pointer (some ⟨c, 0, none⟩), .pointer (some ⟨d, 0, none⟩)] W fun e w' => e = .returned (.bool (Dn rs most x.x.uid)) ∧ Hid (Below W.heap.size W w') := by
 have l1 := fu _ _ h1;have l2 := fu _ _ h2;have l3 := fu _ _ h3;dsimp only at l1 l2 l3;have hb := (ae _ W).alloc (ax _) (.cells (nz x).toArray 50);have hb2 := hb.drew;have hc := hi_ (Xi rs (.slice au rs.length cu) most x.x.uid _ (by omega) (hr.on hb2));obtain ⟨hx, -⟩ := ((ny W).dz (nz x).toArray 50).drew.box 0 rfl;have r0 : (W.alloc (.cells (nz x).toArray 50)).drew.cell? ⟨W.heap.size, 0, none⟩ = some (.int .u64 x.x.uid) := bc_ hx 0;replace h1 := (hb2.cell (p := ⟨c, 0, none⟩) l1).trans h1;replace h2 := (hb2.cell (p := ⟨wb, 15, none⟩) l2).trans h2;replace h3 := (hb2.cell (p := ⟨d, 0, none⟩) l3).trans h3;replace hb := hi_ hb2;clear hb2 hr hx;show Calls prog 123 #[.agg #[.int .u64 x.x.uid, .slice x.a x.x.flags.length x.c, .int .u64 x.x.mod, .string x.x.hash, .int .u64 x.x.size], .pointer (some ⟨c, 0, none⟩), .pointer (some ⟨d, 0, none⟩)] W _;unfold nz LtV.v at *;obtain ⟨B, hB⟩ : ∃ B, W.heap.size = B := ⟨_, rfl⟩;rw [hB] at r0;have l4 := fu _ _ r0;generalize hW1 : (W.alloc (.cells [Value.int .u64 x.x.uid, .slice x.a x.x.flags.length x.c, .int .u64 x.x.mod, .string x.x.hash, .int .u64 x.x.size].toArray 50)) = W1 at *;dsimp only at l4;have l1' : c < W1.drew.heap.size := fu _ _ h1;have l2' : wb < W1.drew.heap.size := fu _ _ h2;have l3' : d < W1.drew.heap.size := fu _ _ h3;clear l1 l2 l3;go_enter func123, ntmps123;go_wp2_with fail;refine wr_ (fun w' => w'.cell? ⟨c, 0, none⟩ = some (.pointer (some ⟨wb, 0, none⟩)) ∧ w'.cell? ⟨wb, 15, none⟩ = some (.slice au rs.length cu) ∧ w'.cell? ⟨d, 0, none⟩ = some (.int .u64 most) ∧ w'.cell? ⟨B, 0, none⟩ = some (.int .u64 x.x.uid)) 9 1 ⟨h1, h2, h3, r0⟩ fun hok hS0 => ?_;refine av hok 0 ?_;refine av hok 1 ?_;refine av hok 2 ?_;refine av hok 3 ?_;refine av hok 4 ?_;refine av hok 5 ?_;refine av hok 6 ?_;refine av hok 7 ?_;refine g_ 8 fun K hK => ?_;go_simp;refine hc.out.mono ?_;rintro e w3 ⟨rfl, hb3⟩;dsimp only;refine hK _ _ ⟨(hb3.cell (p := ⟨c, 0, none⟩) l1').trans h1, (hb3.cell (p := ⟨wb, 15, none⟩) l2').trans h2, (hb3.cell (p := ⟨d, 0, none⟩) l3').trans h3, (hb3.cell (p := ⟨B, 0, none⟩) l4).trans r0⟩ ?_;clear hK K;refine kw ?_;have hB2 := hi_ (hb.out.trans (hb3.mono (by have := hb.out.size; omega)));clear hb hb3 hc hok hS0 h1 h2 h3 r0 l1' l2' l3' l4;go_wp2_with fail;go_ret;exact ⟨rfl, hB2⟩
end
section
open Go.RowKit
def Kh (k : WkV) (i : Nat) (x : BxV) : WkV := { k with bs := k.bs.set i x }
def qj (m : Ml) (i : Nat) (b : Bx) : Ml := { m with boxes := m.boxes.set i b }
def Jc (k : WkV) (p : Value × List (List UInt8)) : WkV := { k with S := p :: k.S }
section
variable {W0 W : World} {wb : Nat} {k : WkV} {m : Ml} {q : Rq} {y : RqV} {o : Oc} {E : List Th}
theorem Ri (bs : List BxV) (i : Nat) (x : BxV) : qi (bs.set i x) = (qi bs).set i (ltT.row x.v x.rows) := by
 unfold qi;rw [cc_]
theorem av_ {bs : List BxV} {i : Nat} (hi : i < bs.length) : (qi bs)[i]? = some (ltT.row bs[i].v bs[i].rows) := by
 unfold qi;rw [ji, ay hi]; rfl
theorem T_ (i : Nat) (hi : i < k.bs.length) (x : BxV) :
  ((ik wb k m q y o ++ E).set (i + 7) (ltT.row x.v x.rows)).set 3 (bxT.row (.slice k.ab k.bs.length k.cb) (k.bs.set i x)) = ik wb (Kh k i x) (qj m i x.b) q y o ++ E := by
 unfold ik zk Kh qj l9;dsimp only;rw [gq, Ri];show _ :: _ :: _ :: _ :: _ :: _ :: _ :: ((qi k.bs ++ E).set i _) = _ :: _ :: _ :: _ :: _ :: _ :: _ :: ((qi k.bs).set i _ ++ E);rw [Ho _ _ (by unfold qi; rw [az]; exact hi)]
theorem Q_ (i : Nat) (hi : i < k.bs.length) (x : BxV) (hr : x.rows = k.bs[i].rows) (hv : x.v = k.bs[i].v) : (ik wb k m q y o ++ E).set (i + 7) (ltT.row x.v x.rows) = ik wb k m q y o ++ E := by
 rw [hr, hv];unfold ik zk;show _ :: _ :: _ :: _ :: _ :: _ :: _ :: ((qi k.bs ++ E).set i _) = _ :: _ :: _ :: _ :: _ :: _ :: _ :: (qi k.bs ++ E);rw [Ho _ _ (by unfold qi; rw [az]; exact hi)];have : (qi k.bs).set i (ltT.row k.bs[i].v k.bs[i].rows) = qi k.bs := by
  rw [← Ri];rw [List.set_getElem_self]
 rw [this]
theorem Ua (i : Nat) (hi : i < k.bs.length) : (ik wb k m q y o ++ E)[i + 7]? = some (ltT.row k.bs[i].v k.bs[i].rows) := by
 unfold ik zk;show (qi k.bs ++ E)[i]? = _;rw [ko (by unfold qi; rw [az]; exact hi), av_ hi]
structure gj_ (W : World) (g i : Nat) (x : BxV) : Prop where
 c0 : W.cell? ⟨g, i * 5, none⟩ = some (.string x.name)
 c1 : W.cell? ⟨g, i * 5 + 1, none⟩ = some (.int .u64 x.ag)
 c2 : W.cell? ⟨g, i * 5 + 2, none⟩ = some (.int .u64 x.next)
 c3 : W.cell? ⟨g, i * 5 + 3, none⟩ = some (.int .u64 x.high)
 c4 : W.cell? ⟨g, i * 5 + 4, none⟩ = some (.slice x.a x.rows.length x.c)
theorem ug {L : List Th} (hz : Zoo W0 W L) (h3 : L[3]? = some (bxT.row (.slice k.ab k.bs.length k.cb) k.bs)) {i : Nat} (hi : i < k.bs.length) : ∃ g, k.ab = some ⟨g, 0, none⟩ ∧ g < W.heap.size ∧ gj_ W g i k.bs[i] ∧ ∀ j, W.frozen? ⟨g, j, none⟩ = false := by
 obtain ⟨g, cap, rest, hv, -, hg, hrow, -⟩ := (hz.own 3 h3).row (by omega);injection hv with e1 e2 e3;exact ⟨g, e1, hg, ⟨hrow.cell i 0 hi (by decide), hrow.cell i 1 hi (by decide), hrow.cell i 2 hi (by decide), hrow.cell i 3 hi (by decide), hrow.cell i 4 hi (by decide)⟩, hrow.free⟩
theorem Gd {i : Nat} (hi : i < k.bs.length) (x : BxV) (hz : Zoo W0 W ((ik wb k m q y o ++ E).set (i + 7) (ltT.row x.v x.rows))) {g : Nat} (hg : k.ab = some ⟨g, 0, none⟩) (r : Nat) (hr : r < 5) (u : Value) (hx : bxT.enc x = (bxT.enc k.bs[i]).set r u) :
  Zoo W0 (W.setCell ⟨g, i * 5 + r, none⟩ u) (ik wb (Kh k i x) (qj m i x.b) q y o ++ E) := by
 obtain ⟨g', cap, hv, -, -, -, -, hz2⟩ := hz.Fh 3 rfl i hi r hr u x hx;injection hv with e1 e2 e3;rw [hg] at e1;injection e1 with e1;injection e1 with e1;subst e1;rw [T_ i hi x] at hz2;exact hz2
theorem Hr {i : Nat} (hi : i < k.bs.length) (x : BxV) (hz : Zoo W0 W (ik wb k m q y o ++ E)) (hrow : x.rows = k.bs[i].rows) (hv : x.v = k.bs[i].v) {g : Nat} (hg : k.ab = some ⟨g, 0, none⟩) (r : Nat) (hr : r < 5) (u : Value) (hx : bxT.enc x = (bxT.enc k.bs[i]).set r u) :
  Zoo W0 (W.setCell ⟨g, i * 5 + r, none⟩ u) (ik wb (Kh k i x) (qj m i x.b) q y o ++ E) :=
 Gd hi x (by rw [Q_ i hi x hrow hv]; exact hz) hg r hr u hx
theorem wm.set {i : Nat} (h : wm k m) (x : BxV) (hx : Hg k.S x.rows) : wm (Kh k i x) (qj m i x.b) := by
 refine ⟨?_, fun z hz => ?_⟩
 ·show (k.bs.set i x).map BxV.b = m.boxes.set i x.b;rw [cc_, h.1]
 rcases lh hz with hz | rfl
 ·exact h.2 z hz
 exact hx
theorem wm.add {p : Value × List (List UInt8)} (h : wm k m) : wm (Jc k p) m := ⟨h.1, fun z hz w hw => jh _ (h.2 z hz w hw)⟩
theorem Wy {W' : World} {v : Value} {l : List (List UInt8)} (hz : Zoo W0 W (ik wb k m q y o ++ E)) (hb : Below W.heap.size W W') (hr : Cq W' v l) (hf : ∀ g, v.ownBlock = some g → W.heap.size ≤ g) : Zoo W0 W' (ik wb (Jc k (v, l)) m q y o ++ E) := hz.Rz 6 rfl hb hr hf
theorem Aa (hz : Zoo W0 W (ik wb k m q y o ++ E)) : Zoo W0 W (ik wb k m q y o) := hz.sub (List.sublist_append_left _ _)
theorem Nt {t : Th} (hz : Zoo W0 W (t :: ik wb k m q y o)) : Zoo W0 W (ik wb k m q y o ++ [t]) := hz.perm (qx _ _).symm
theorem Ra {l : List Nat} {a : Option Addr} {c : Nat} (hz : Zoo W0 W (ky.row (.slice a l.length c) l :: (ik wb k m q y o ++ E))) : Zoo W0 (W.setCell ⟨wb, 26, none⟩ (.slice a l.length c)) (ik wb { k with aU := a, cU := c } m q y { o with h_ := l } ++ E) := by
 have h2 := hz.il 1 rfl 26 (.slice a l.length c);have h3 := h2.swap;refine h3.sub ?_;exact gz _ (gz _ (j_ _ (j4 _)))
end
end
section
open Go.RowKit
section
variable {P : Program} {ops : Array Oper} {S : World → Prop}
theorem Gx {o : Oper} {ρ : Operand → Value} (t : TypeId) (x : Operand) (ho : o.op = .load t x) (b off : Nat) (cs : List Value) (hx : ρ x = .pointer (some ⟨b, off, none⟩)) (hagg : ∀ w, (isAgg t).run P w = .ok true w) (hsz : ∀ w, (Go.sizeOf t).run P w = .ok cs.length w) (W : World) (h : ∀ j v, cs[j]? = some v → W.cell? ⟨b, off + j, none⟩ = some v) : (execOp ρ o).run P W = .ok (.value (.agg cs.toArray)) W := by
 have := run_loadCells_list (P := P) W ⟨b, off, none⟩ cs (fun j v hj => by rw [zx]; exact h j v hj);simp [execOp, ho, Instr.loadAt, Instr.sureAddr, hx, loadVar, hagg, hsz, this]
theorem Af {o : Oper} {a : Act} (t : TypeId) (x : Operand) (ho : o.op = .load t x) (b off : Nat) (cs : List Value) (hx : a.eval x = .pointer (some ⟨b, off, none⟩)) (hagg : ∀ w, (isAgg t).run P w = .ok true w) (hsz : ∀ w, (Go.sizeOf t).run P w = .ok cs.length w) (hgd : o.guard = none) (h : ∀ W, S W → ∀ j v, cs[j]? = some v → W.cell? ⟨b, off + j, none⟩ = some v) : YieldsIf P ops S o (.agg cs.toArray) a :=
 .inl ⟨by simp [Region.wanted, hgd], fun w hw => Gx t x ho b off cs hx hagg hsz w (h w hw)⟩
theorem Dk {o : Oper} {rest : List Oper} {a : Act} {w : World} {Q : Exit → Act → World → Prop} (hgd : o.guard = none) (t : TypeId) (x : Operand) (ho : o.op = .load t x) (b off : Nat) (cs : List Value) (hx : a.eval x = .pointer (some ⟨b, off, none⟩)) (hagg : ∀ w, (isAgg t).run P w = .ok true w) (hsz : ∀ w, (Go.sizeOf t).run P w = .ok cs.length w) (h : ∀ j v, cs[j]? = some v → w.cell? ⟨b, off + j, none⟩ = some v)
  (hK : wpList P ops Q rest (a.put o.dst (.agg cs.toArray)) w) : wpList P ops Q (o :: rest) a w :=
 wpList_plain hgd fun K hK' => by
  have h1 := Gx (P := P) (ρ := a.eval) t x ho b off cs hx hagg hsz w h;unfold Oper.wp;simp only [h1, Result.andThen];exact hK' _ _ hK
theorem Fv {o : Oper} {ρ : Operand → Value} (t : TypeId) (x u : Operand) (ho : o.op = .store t x u) (b off : Nat) (cs : List Value) (hx : ρ x = .pointer (some ⟨b, off, none⟩)) (hu : ρ u = .agg cs.toArray) (hsz : ∀ w, (Go.sizeOf t).run P w = .ok cs.length w) (h1 : ∀ v ∈ cs, v.oneCell' = true) (W : World) (hc : ∀ j, j < cs.length → (W.cell? ⟨b, off + j, none⟩).isSome = true) (hf : ∀ j, W.frozen? ⟨b, j, none⟩ = false) : ∃ n, (execOp ρ o).run P W = .ok n (W.setCells b off cs) ∧ n = .skip := by
 have := run_storeCells_cells (P := P) b off cs 0 W (by simpa using hc) (fun j _ => hf _) h1;simp only [Cz] at this;refine ⟨_, ?_, rfl⟩;simp [execOp, ho, Instr.storeAt, Instr.sureAddr, hx, hu, storeVar, hsz, Value.cells, this]
theorem ru {o : Oper} {rest : List Oper} {a : Act} {w : World} {Q : Exit → Act → World → Prop} (hgd : o.guard = none) (t : TypeId) (x u : Operand) (ho : o.op = .store t x u) (b off : Nat) (cs : List Value) (hx : a.eval x = .pointer (some ⟨b, off, none⟩)) (hu : a.eval u = .agg cs.toArray) (hsz : ∀ w, (Go.sizeOf t).run P w = .ok cs.length w) (h1 : ∀ v ∈ cs, v.oneCell' = true) (hc : ∀ j, j < cs.length → (w.cell? ⟨b, off + j, none⟩).isSome = true) (hf : ∀ j, w.frozen? ⟨b, j, none⟩ = false)
  (hK : wpList P ops Q rest (a.put o.dst undef) (w.setCells b off cs)) : wpList P ops Q (o :: rest) a w :=
 wpList_plain hgd fun K hK' => by
  obtain ⟨n, h2, rfl⟩ := Fv (P := P) (ρ := a.eval) t x u ho b off cs hx hu hsz h1 w hc hf;unfold Oper.wp;simp only [h2, Result.andThen];exact hK' _ _ hK
end
theorem Zoo.mq {W0 W : World} {L : List Th} {B : Nat} {C : List Value} {t : TypeId} (h : Zoo W0 W L) (i : Nat) (hi : L[i]? = some (df B C.toArray t)) (cs : List Value) (hl : cs.length = C.length) : Zoo W0 (W.setCells B 0 cs) (L.set i (df B cs.toArray t)) := by
 obtain ⟨F, ⟨h1, hF⟩, hlow, hact⟩ := h.act i _ hi;have h2 := zi cs 0 C W h1 (by omega);rw [List.take_zero, zq, di, hl, wy, jy] at h2;have hk : o_ W B (W.setCells B 0 cs) := o_.sets _ _ (o_.refl W B);exact hact _ F _ ⟨h2, hF⟩ ⟨hk.os, hk.tape, hk.output, yw hk.size.symm, fun k hk1 hn => hk.block k (fun e => hn ((hF k).2 e)), fun k hk1 => .inl hk1⟩
theorem Zoo.m_ {W0 W : World} {L : List Th} {B : Nat} {C : List Value} {t : TypeId} (h : Zoo W0 W L) (i : Nat) (hi : L[i]? = some (df B C.toArray t)) : (∀ j, j < C.length → (W.cell? ⟨B, 0 + j, none⟩).isSome = true) ∧ ∀ j, W.frozen? ⟨B, j, none⟩ = false := by
 obtain ⟨h1, -⟩ := h.box i hi;refine ⟨fun j hj => ?_, bf_ h1⟩;rw [di, bc_ h1 j, ai, ay hj]; rfl
end
section
open Go.RowKit
set_option maxRecDepth 100000 in
set_option maxHeartbeats 2000000 in
theorem S_ (s : ByteArray) (hs0 : s.size ≤ maxLen) (w : World) : Calls prog 106 #[.string s] w (Kz s.data.toList w) := by
 have hs9 := hi_ hs0;clear hs0;have kb := Ki (P := prog) 99 9 5 underlying99 underlying5 underlying9;go_enter func106, ntmps106;go_wp2_with fail;go_loopw [4] (fun vk wr => ∃ k : Nat, vk = .int .i64 k ∧ k ≤ 5 ∧ Hid (∀ j, j < k → zn s.data.toList j = false) ∧ Hid (Below w.heap.size w wr)) (fun vk _ => 5 - (intOf vk).toNat);case atStart => exact ⟨0, rfl, by omega, hi_ (fun j h => absurd h (Du _)), hi_ (ae _ _)⟩
 case round =>
  obtain ⟨k, rfl, hk, hno, hb⟩ := hrel;by_cases hk5 : k < 5
  ·go_wp2_with fail;refine (Ex k hk5 wr).mono ?_;rintro e w' ⟨rfl, rfl⟩;go_wp2_with fail;refine (Ew (mkB (xe.getD k [])) (Ld k hk5) wr).mono ?_;rintro e w2 ⟨U1, rfl, hU1, hb1⟩;go_wp2_with fail;refine (Ew s hs9.out w2).mono ?_;rintro e w3 ⟨U2, rfl, hU2, hb2⟩;have hq' : (U1.toList == U2.toList) = zn s.data.toList k := Ec hU1 hU2;have hb3 := hi_ ((hb.out.trans (hb1.mono hb.out.size)).trans (hb2.mono (ed hb.out.size hb1.size)));clear hb1 hb2 hU1 hU2;cases h : zn s.data.toList k
   ·rw [h] at hq';have hno' : Hid (∀ j, j < k + 1 → zn s.data.toList j = false) := hi_ (fun j hj => by
     rcases oo j k with h1 | h1
     ·exact hno.out j h1
     obtain rfl : j = k := (by omega);exact h)
    replace h := hi_ h;go_wp2_with fail;go_roundw;case rel => exact ⟨k + 1, by go_num, by omega, hno', hb3⟩
    case measure => simp [intOf]; omega
   rw [h] at hq';have hc := hi_ (Dr s.data.toList k (by omega) hno.out h);replace h := hi_ h;go_wp2_with fail;refine (Ex k hk5 w3).mono ?_;rintro e w' ⟨rfl, rfl⟩;go_wp2_with fail;go_ret2
   exact Bg hc.out hb3.out
  obtain rfl : k = 5 := by omega
  have hck := hi_ (Rp s.data.toList hno.out);rw [show ((5 : Nat) : Int) = (5 : Int) from rfl];go_wp2_with fail;refine (Us s hs9.out wr).mono ?_;rintro e w2 ⟨rfl, rfl⟩;cases ha : Eg v_ s.data.toList
  ·have hn : Hid (qp s.data.toList = none) := hi_ (by rw [hck.out, I_, ha]; rfl);clear hck;replace ha := hi_ ha;go_wp2_with fail;go_ret2
   exact Ku hn.out hb.out
  by_cases hlen : s.size ≤ 32
  ·have hy : Hid (qp s.data.toList = some (Bt s.data.toList)) := hi_ (by rw [hck.out, I_, ha, ← zy, b_ hlen]; rfl);clear hck;replace ha := hi_ ha;go_wp2_with fail;go_loopw [5, 6] (fun v i wr2 => ∃ (k : Nat) (o : ByteArray), k ≤ s.size ∧ o.size ≤ k ∧ i = .int .i64 k ∧ v = .string o ∧ Hid (o.data.toList = Bt (s.data.toList.take k)) ∧ Hid (Below w.heap.size w wr2)) (fun _ i _ => s.size - (intOf i).toNat);case atStart => exact ⟨0, _, dw _, dw _, rfl, rfl, rfl, hb⟩
   case round =>
    obtain ⟨k, o, hk2, ho, rfl, rfl, hp, hb2⟩ := hrel;have hba : Hid (∀ ob, Below w.heap.size w (wr.alloc ob)) := hi_ (fun ob => hb2.out.alloc hb2.out.size ob);by_cases hlt : k < s.size
    ·go_wp2_with fail
     ·refine ⟨⟨k + 1, _, by omega, Dq _ ho, by go_num, rfl, Ll s o k hlt _ hp (dd_ _ (by assumption) (by assumption)), hi_ (hba.out _)⟩, by simp [intOf]; omega⟩
     ·refine ⟨⟨k + 1, _, by omega, Dq _ ho, by go_num, rfl, Ll s o k hlt _ hp (Nr _ (by omega)).symm, hi_ (hba.out _)⟩, by simp [intOf]; omega⟩
     refine ⟨⟨k + 1, _, by omega, Dq _ ho, by go_num, rfl, Ll s o k hlt _ hp (Nr _ (by omega)).symm, hi_ (hba.out _)⟩, by simp [intOf]; omega⟩
    obtain rfl : k = s.size := (by omega);rw [Bj] at hp;go_wp2_with fail;go_ret2
    exact Bg (by rw [hy.out, hp.out]) hb2.out
  have hn : Hid (qp s.data.toList = none) := hi_ (by rw [hck.out, I_, ha, ← zy, aj hlen]; rfl);clear hck;replace ha := hi_ ha;go_wp2_with fail;go_ret2
  exact Ku hn.out hb.out
theorem cv_ (x : List UInt8) (k : Nat) (hk : k < 5) (h1 : ∀ j, j < k → (xe.getD j [] == x) = false) (h2 : (xe.getD k [] == x) = true) : p8 x = k := by
 have e : ∀ (l : List (List UInt8)) (k : Nat), k < l.length → (∀ j, j < k → (l.getD j [] == x) = false) → (l.getD k [] == x) = true → l.idxOf x = k := by
  intro l;induction l with
  | nil => intro k hk; simp at hk
  | cons y r ih =>
   intro k hk h1 h2;match k, hk, h1, h2 with
   | 0, _, _, h2 => rw [List.idxOf_cons, show (y == x) = true from h2]; rfl
   | k + 1, hk, h1, h2 =>
    rw [List.idxOf_cons, show (y == x) = false from h1 0 (by omega)];have := ih k (by simpa using hk) (fun j hj => h1 (j + 1) (by omega)) h2;simpa using this
 exact e xe k hk h1 h2
theorem Xq (x : List UInt8) (h1 : ∀ j, j < 5 → (xe.getD j [] == x) = false) : p8 x = 5 := by
 refine List.idxOf_eq_length fun hx => ?_;obtain ⟨j, hj, e⟩ := List.getElem_of_mem hx;have := h1 j hj;rw [List.getD, ay hj] at this;simp only [Option.getD_some, e, beq_self_eq_true] at this;cases this
set_option maxHeartbeats 1000000 in
theorem Dl (s : ByteArray) (w : World) : Calls prog 134 #[.string s] w fun e w' => e = .returned (.int .i64 (p8 s.data.toList)) ∧ w = w' := by
 go_enter func134, ntmps134;go_wp2_with fail;go_loop [3] (fun vk => ∃ k : Nat, vk = .int .i64 k ∧ k ≤ 5 ∧ Hid (∀ j, j < k → (xe.getD j [] == s.data.toList) = false)) (fun vk => 5 - (intOf vk).toNat)
 case atStart => exact ⟨0, rfl, by omega, hi_ (fun j h => absurd h (Du _))⟩
 case round =>
  obtain ⟨k, rfl, hk, hno⟩ := hrel;by_cases hk5 : k < 5
  ·go_wp2_with fail;refine (Ex k hk5 w).mono ?_;rintro e w' ⟨rfl, rfl⟩;have hq : ((mkB (xe.getD k [])).toList == s.toList) = (xe.getD k [] == s.data.toList) := (by rw [Ie, vz]);generalize mkB (xe.getD k []) = F at hq ⊢;cases h : (xe.getD k [] == s.data.toList)
   ·rw [h] at hq;have hno' : Hid (∀ j, j < k + 1 → (xe.getD j [] == s.data.toList) = false) := hi_ (fun j hj => by
     rcases oo j k with h1 | h1
     ·exact hno.out j h1
     obtain rfl : j = k := (by omega);exact h)
    replace h := hi_ h;go_wp2_with fail;exact ⟨⟨k + 1, by go_num, by omega, hno'⟩, by simp [intOf]; omega⟩
   rw [h] at hq;have hp := hi_ (cv_ _ k hk5 hno.out h);replace h := hi_ h;go_wp2_with fail;go_ret;exact ⟨by rw [hp.out]; rfl, rfl⟩
  obtain rfl : k = 5 := by omega
  have hp := hi_ (Xq _ hno.out);go_wp2_with fail;go_ret;exact ⟨by rw [hp.out]; rfl, rfl⟩
theorem bytesLess_eq : ∀ a b : List UInt8, Op.bytesLess a b = bytesBefore a b
 | [], [] => rfl
 | _ :: _, [] => rfl
 | [], _ :: _ => rfl
 | a :: x, b :: y => by rw [Op.bytesLess, bytesBefore, bytesLess_eq x y]
set_option maxHeartbeats 1000000 in
theorem Mr (a b : ByteArray) (w : World) : Calls prog 107 #[.string a, .string b] w fun e w' => e = .returned (.bool (flt a.data.toList b.data.toList)) ∧ w = w' := by
 have h1 := Fj a.data.toList;have h2 := Fj b.data.toList;have hf := hi_ (Pk a.data.toList b.data.toList);have hl : Op.bytesLess a.toList b.toList = bytesBefore a.data.toList b.data.toList := by rw [bytesLess_eq, ib, ib]
 go_enter func107, ntmps107;go_wp2_with fail;refine (Dl a w).mono ?_;rintro e w' ⟨rfl, rfl⟩;go_wp2_with fail;refine (Dl b w).mono ?_;rintro e w' ⟨rfl, rfl⟩;by_cases h : p8 a.data.toList = p8 b.data.toList
 ·have hr : Hid (flt a.data.toList b.data.toList = bytesBefore a.data.toList b.data.toList) := hi_ (by rw [hf.out, dh h]);rw [h];clear h;go_wp2_with fail;go_ret;exact ⟨by rw [hr.out]; first | rfl | (rw [hl]; rfl), rfl⟩
 have hne : ((p8 a.data.toList : Int) != (p8 b.data.toList : Int)) = true := by rw [bne_iff_ne]; omega
 have hr : Hid (flt a.data.toList b.data.toList = decide ((p8 a.data.toList : Int) < p8 b.data.toList)) := hi_ (by
  rw [hf.out, bq h, decide_eq_decide]; omega)
 clear h;go_wp2_with fail;refine (Dl a w).mono ?_;rintro e w' ⟨rfl, rfl⟩;go_wp2_with fail;refine (Dl b w).mono ?_;rintro e w' ⟨rfl, rfl⟩;go_wp2_with fail;go_ret;exact ⟨by rw [hr.out]; first | rfl | simp, rfl⟩
set_option maxHeartbeats 1000000 in
theorem Jl (v : Value) (l : List (List UInt8)) (f : ByteArray) (w : World) (hr : Rd w v l.length (l.map encStr)) (hl : l.length * 16 ≤ 140737488355328) :
  Calls prog 67 #[v, .string f] w fun e w' => e = .returned (.bool (decide (f.data.toList ∈ l))) ∧ w = w' := by
 have hr0 := hi_ hr;obtain ⟨ao, cap, rfl, -⟩ := hr;go_enter func67, ntmps67;go_wp2_with fail;go_loop [5] (fun vk => ∃ k : Nat, vk = .int .i64 k ∧ k ≤ l.length ∧ Hid (f.data.toList ∉ l.take k)) (fun vk => l.length - (intOf vk).toNat)
 case atStart => exact ⟨0, rfl, dw _, hi_ (by simp)⟩
 case round =>
  obtain ⟨k, rfl, hk, hno⟩ := hrel;by_cases hlt : k < l.length
  ·obtain ⟨b, o, hao, hbl, hcell⟩ := hr0.out.Bz (by omega);subst hao;have hc : w.cell? ⟨b, o + k, none⟩ = some (.string (mkB l[k])) := hcell k _ (by rw [ji, ay hlt]; rfl);have hq : ((mkB l[k]).toList == f.toList) = (l[k] == f.data.toList) := (by rw [Ie, vz]);generalize mkB l[k] = F at hq hc;clear hcell;cases h : (l[k] == f.data.toList)
   ·rw [h] at hq;have hno' : Hid (f.data.toList ∉ l.take (k + 1)) := hi_ (by
     rw [ak hlt, fe];rintro (h1 | h1)
     ·exact hno.out h1
     have : f.data.toList = l[k] := (by simpa using h1);rw [this] at h; simp at h)
    replace h := hi_ h;go_wp2_with fail;exact ⟨⟨k + 1, by go_num, by omega, hno'⟩, by simp [intOf]; omega⟩
   rw [h] at hq;have hm : Hid (f.data.toList ∈ l) := hi_ (by rw [← eq_of_beq h]; exact bg hlt);replace h := hi_ h;go_wp2_with fail;go_ret;exact ⟨by rw [b_ hm.out]; rfl, rfl⟩
  have hm : Hid (f.data.toList ∉ l) := hi_ (by have := hno.out; rwa [jr (by omega)] at this);go_wp2_with fail;go_ret;exact ⟨by rw [aj hm.out]; rfl, rfl⟩
end
section
open Go.RowKit
def Ei (w : World) (B : Nat) (v : Value) (l : List (List UInt8)) : Prop := w.ownsRow B 9 1 v l.length (l.map encStr)
theorem Ei.nil (w : World) (B : Nat) : Ei w B (.slice none 0 0) [] := World.ownsRow_nil _ _ _ _
theorem Ei.rd {w : World} {B : Nat} {v : Value} {l : List (List UInt8)} (h : Ei w B v l) : Rd w v l.length (l.map encStr) := Rd.Lg h
theorem Ei.below {w w' : World} {B : Nat} {v : Value} {l : List (List UInt8)} (h : Ei w B v l) (hb : Below w.heap.size w w') : Ei w' B v l :=
 World.ownsRow.kept (row := none) h ⟨hb.os, hb.tape, hb.output, hb.size, fun k hk _ => hb.block k hk⟩ (by cases hv : v.ownBlock <;> simp)
theorem Ei.lt {w : World} {B : Nat} {v : Value} {l : List (List UInt8)} (h : Ei w B v l) : ∀ k, v.ownBlock = some k → B ≤ k ∧ k < w.heap.size := World.ownsRow.lt h
theorem Ke : (prog.info? 9).map (fun i => (i.zero, i.size, i.bytes)) = some (some (.string ⟨#[]⟩), 1, 16) := by kernel_rfl
theorem wpList_append_text {w : World} {ops : Array Oper} {rest : List Oper} {o : Oper} {a : Act} {Q : Exit → Act → World → Prop} (hgd : o.guard = none) (s x : Operand)
  (ho : o.op = .call { callee := .builtin .append, args := #[s, x], argTypes := #[39, 39] }) (B : Nat) (v : Value) (l : List (List UInt8)) (g : Nat) (u : ByteArray)
  (hs : a.eval s = v) (hx : a.eval x = .slice (some ⟨g, 0, none⟩) 1 1) (hown : Ei w B v l) (hc : w.cell? ⟨g, 0, none⟩ = some (.string u)) (hg : g < w.heap.size) (hlen : (l.length + 1) * 16 ≤ 140737488355328) (hbase : B ≤ w.heap.size)
  (h : ∀ v' w', Ei w' B v' (l ++ [u.data.toList]) → w.grownBy w' v.ownBlock → (∀ g, v'.ownBlock = some g → v.ownBlock = some g ∨ w.heap.size ≤ g) → wpList prog ops Q rest (a.put o.dst v') w') : wpList prog ops Q (o :: rest) a w := by
 refine Ch hgd s x 39 ho B 9 _ 1 16 underlying39 Ke rfl (by decide) v _ l.length 1 (l.map encStr) [.string u] hs hx hown ⟨_, 1, rfl, .inr ⟨g, 0, rfl, hg, ax _, fun i y hy => ?_⟩⟩ rfl (fun y hy => ?_) (by unfold maxLen; omega) hlen hbase ?_
 ·match i, hy with
  | 0, hy => simp at hy; subst hy; simpa using hc
 ·have : y = .string u := by simpa using hy
  subst this; rfl
 intro v' w' ho' hg' hv';refine h v' w' ?_ hg' hv';unfold Ei;rw [bz, fo];exact ho'
def u7 (f : List UInt8) (l : List (List UInt8)) (k : Nat) (done : Bool) (out : List (List UInt8)) : Prop :=
 if done then uh flt f l = out ++ l.drop k else out = l.take k ∧ uh flt f l = out ++ uh flt f (l.drop k)
theorem u7.start (f : List UInt8) (l : List (List UInt8)) : u7 f l 0 false [] := ⟨rfl, rfl⟩
theorem u7.len {f : List UInt8} {l : List (List UInt8)} {k : Nat} {d : Bool} {out : List (List UInt8)} (h : u7 f l k d out) : out.length ≤ l.length + 1 := by
 have hl := Km flt f l;cases d
 ·rw [h.1, bf]; omega
 have h' : uh flt f l = out ++ l.drop k := h;rw [h', bz] at hl; omega
theorem Pm {l : List (List UInt8)} {k : Nat} (h : k < l.length) : l.drop k = l[k] :: l.drop (k + 1) := pu h
theorem u7.on {f : List UInt8} {l : List (List UInt8)} {k : Nat} {out : List (List UInt8)} (h : u7 f l k true out) (hk : k < l.length) : u7 f l (k + 1) true (out ++ [l[k]]) := by
 have h' : uh flt f l = out ++ l.drop k := h;show uh flt f l = _;rw [h', Pm hk]; simp
theorem u7.skip {f : List UInt8} {l : List (List UInt8)} {k : Nat} {out : List (List UInt8)} (h : u7 f l k false out) (hk : k < l.length) (hn : flt f l[k] = false) : u7 f l (k + 1) false (out ++ [l[k]]) := by
 have h2 := h.2;rw [Pm hk, uh, bq (by rw [hn]; simp)] at h2;exact ⟨by rw [h.1, ak hk], by rw [h2]; simp⟩
theorem u7.put {f : List UInt8} {l : List (List UInt8)} {k : Nat} {out : List (List UInt8)} (h : u7 f l k false out) (hk : k < l.length) (hn : flt f l[k] = true) : u7 f l (k + 1) true (out ++ [f] ++ [l[k]]) := by
 have h2 := h.2;rw [Pm hk, uh, dh hn] at h2;show uh flt f l = _;rw [h2]; simp
theorem u7.hz_ {f : List UInt8} {l : List (List UInt8)} {d : Bool} {out : List (List UInt8)} (h : u7 f l l.length d out) : uh flt f l = if d then out else out ++ [f] := by
 cases d
 ·have := h.2;rw [wy] at this;exact this
 have h' : uh flt f l = out ++ l.drop l.length := h;rw [wy, jy] at h';exact h'
def ie_ (l : List (List UInt8)) (w : World) (e : Ending) (w' : World) : Prop := ∃ v', e = .returned v' ∧ Hid (Rd w' v' l.length (l.map encStr)) ∧ Hid (Below w.heap.size w w')
theorem Aq {w : World} {b o k : Nat} {l : List (List UInt8)} (hc : ∀ i u, (l.map encStr)[i]? = some u → w.cell? ⟨b, o + i, none⟩ = some u) (hk : k < l.length) : w.cell? ⟨b, o + k, none⟩ = some (.string (mkB l[k])) := hc k _ (by rw [ji, ay hk]; rfl)
end
section
open Go.RowKit
def Pw : List (List UInt8) → Option (List (List UInt8))
 | [] => some []
 | x :: r => match qp x with
  | none => none
  | some c => (Pw r).map (c :: ·)
def cz_ (l : List (List UInt8)) : Nat := match Pw l with
 | none => 4
 | some cs => if 16 < (ni cs).length then 7 else 0
def Za (l : List (List UInt8)) : List (List UInt8) := match Pw l with
 | none => []
 | some cs => if 16 < (ni cs).length then [] else ni cs
def hu_ (l : List (List UInt8)) (w : World) (e : Ending) (w' : World) : Prop := ∃ v', e = .returned (.tuple #[v', .int .i64 (cz_ l : Int)]) ∧ Hid (Rd w' v' (Za l).length ((Za l).map encStr)) ∧ Hid (Below w.heap.size w w')
def Eh (l : List (List UInt8)) : Prop := ∀ x ∈ l, (mkB x).size ≤ maxLen
theorem Iq (cs : List (List UInt8)) (c : List UInt8) : Cg flt (ni cs) c = ni (cs ++ [c]) := by
 unfold ni Sq;rw [List.foldl_append]; rfl
set_option maxRecDepth 100000 in
set_option maxHeartbeats 1000000 in
theorem Ul (v1 v2 : Value) (l m : List (List UInt8)) (w : World) (h1 : Rd w v1 l.length (l.map encStr)) (h2 : Rd w v2 m.length (m.map encStr)) (hl : l.length * 16 ≤ 140737488355328) :
  Calls prog 24 #[v1, v2] w fun e w' => e = .returned (.bool (decide (l = m))) ∧ Below w.heap.size w w' := by
 have r1 := hi_ h1;have r2 := hi_ h2;obtain ⟨a1, c1, rfl, -⟩ := h1;obtain ⟨a2, c2, rfl, -⟩ := h2;by_cases hlen : l.length = m.length
 ·rw [← hlen] at r2;rw [← hlen];have hlm := hi_ hlen;clear hlen;go_enter func24, ntmps24;go_wp2_with fail;go_loopw [5] (fun i wr => ∃ (k n : Nat), i = .int .i64 k ∧ k ≤ l.length ∧ Hid (l.take k = m.take k) ∧ wr = w.drewN n) (fun i _ => l.length - (intOf i).toNat);case atStart => exact ⟨0, 0, rfl, dw _, hi_ rfl, rfl⟩
  case round =>
   obtain ⟨k, n, rfl, hk, htk, rfl⟩ := hrel;by_cases hlt : k < l.length
   ·obtain ⟨b, o, hao, hbl, hcell⟩ := r1.out.Bz (by omega);subst hao;obtain ⟨b2, o2, hao2, hbl2, hcell2⟩ := r2.out.Bz (by omega);subst hao2;have hlt2 : k < m.length := (by have := hlm.out; omega);have p0 := Aq hcell hlt;have q0 := Aq hcell2 hlt2;have hq : ((mkB l[k]).toList == (mkB m[k]).toList) = (l[k] == m[k]) := (by rw [Ie, vz, vz]);have hst : Hid (l[k] = m[k] → l.take (k + 1) = m.take (k + 1)) := hi_ (fun h => by
     rw [ak hlt, ak hlt2, htk.out, h])
    have hne : Hid (l[k] ≠ m[k] → l ≠ m) := hi_ (fun h e => by subst e; exact h rfl);clear hcell hcell2;generalize mkB l[k] = X at p0 hq;generalize mkB m[k] = Y at q0 hq;cases h : (l[k] == m[k])
    ·have hn := hi_ (hne.out (by simpa using h));rw [h] at hq;replace h := hi_ h;clear hst hne;go_wp2_with fail;go_quiet (fail);go_wp2_with fail;go_ret;exact ⟨by rw [aj hn.out]; rfl, qw (qw (ae _ _) _) _⟩
    have hn := hi_ (hst.out (by simpa using h));rw [h] at hq;replace h := hi_ h;clear hst hne;go_wp2_with fail;go_quiet (fail);go_wp2_with fail;go_roundw;case rel => exact ⟨k + 1, _, by go_num, by omega, hn, rfl⟩
    case measure => simp [intOf]; omega
   have hy : Hid (l = m) := hi_ (by
    have h3 := htk.out;have h4 := hlm.out;rwa [jr (by omega), jr (by omega)] at h3)
   go_wp2_with fail;go_ret;exact ⟨by rw [b_ hy.out]; rfl, qw (ae _ _) _⟩
 have hne : Hid (l ≠ m) := hi_ (fun e => hlen (by rw [e]));have ht : ((l.length : Int) != (m.length : Int)) = true := by rw [bne_iff_ne]; omega
 clear hlen;go_enter func24, ntmps24;go_wp2_with fail;go_ret;exact ⟨by rw [aj hne.out]; rfl, ae _ _⟩
end
section
open Go.RowKit
def ht_ : List (List UInt8) := [[98], [92, 68, 82, 65, 70, 84], [97], [66]]
theorem Xe (l : List UInt8) (h : l.length ≤ 100) : (mkB l).size ≤ maxLen := by
 show l.length ≤ _;unfold maxLen; omega
end
end Go.Proofs.YtdobbfjmlnlieaaGreat
