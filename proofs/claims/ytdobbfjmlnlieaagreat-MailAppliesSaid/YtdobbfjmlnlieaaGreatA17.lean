/- A state in a block, as the laws of mail hold it; what begun ; An operation turns no mailbox but the one that it names: pla; mail; What the laws of mail ask of states in blocks, while other b; A state that stays read: its mailboxes, fixed once for all w; Shorter forms for the walks of the document's  -/
import Derived.Test.YtdobbfjmlnlieaaGreatA01
import Derived.Test.YtdobbfjmlnlieaaGreatA14
import Derived.Test.YtdobbfjmlnlieaaGreatA15
import Derived.Test.YtdobbfjmlnlieaaGreatA16
import Derived.Test.YtdobbfjmlnlieaaGreatA11
import Derived.Test.YtdobbfjmlnlieaaGreatA13
namespace Go.Proofs.YtdobbfjmlnlieaaGreat
set_option linter.unusedSimpArgs false
namespace Tryz
end Tryz
open Go.Proofs.Tryz Go.Proofs.YtdobbfjmlnlieaaGreat.Tryz
section
open Go.RowKit
theorem ae_ : jq Fq where
 lb := by decide
 nv := by show (2 : Nat) ≤ 4294967296; omega
 ns1 := ax _
 ns2 := by show (1 : Nat) ≤ 4611686018427387904; omega
 sw := dw _
 ls := dw _
 boxes := fun b hb => by
  obtain rfl := dx.1 hb;exact ⟨by kernel_rfl, by kernel_rfl, by decide, by decide, by decide, by show (1 : Nat) ≤ 4294967296; omega, by decide, by show (1 : Nat) ≤ 9223372036854775807; omega, by decide, (fun x hx => by cases hx), tq⟩
 names := uq _ _
 vals := uq _ _
 inbox := ⟨Mv.b, dx.2 rfl, by kernel_rfl⟩
 seated := ⟨(fun h hh => by cases hh), tq, (fun h hh => by cases hh), tq, tq⟩
theorem pq.shape {W : World} {C : List Value} {m : Ml} (h : pq W (.agg C.toArray) m) : ∃ ab cb nb ah ch as_ cs, C = [.slice ab nb cb, .int .u64 m.nv, .slice ah m.homes.length ch, .slice as_ m.seats.length cs, .int .u64 m.ns, .int .u64 m.a_] := by
 obtain ⟨ab, cb, nb, ah, ch, as_, cs, e⟩ := h.xu;injection e with e;exact ⟨ab, cb, nb, ah, ch, as_, cs, jk Array.toList e⟩
def Yq (W : World) (MB : Nat) (m : Ml) (wr : World) : Prop := ∃ C : List Value, Zoo W wr [df MB C.toArray 27] ∧ jw (fun k => k ≠ MB) wr (fun x => pq x (.agg C.toArray) m)
theorem P_.right {W w' : World} {m : Ml} {v : Value} {e : Ending} {MB : Nat} (h : P_ W m v e w') (hs : jw (fun k => k ≠ MB) W fun x => pq x v m) (hM : MB < W.heap.size) : ∃ (C : List Value) (m0 : Ml), e = .returned (.agg C.toArray) ∧ jq m0 ∧ jw (fun k => k ≠ MB) w' (fun x => pq x (.agg C.toArray) m0) ∧ Below W.heap.size W w' := by
 obtain ⟨v', rfl, h1, hb⟩ := h;have key : ∃ m0, jq m0 ∧ jw (fun k => k ≠ MB) w' (fun x => pq x v' m0) := by
  rcases h1.out with ⟨hr, rfl⟩ | ⟨-, hn⟩
  ·exact ⟨m, hr, hs.below hb.out⟩
  exact ⟨Fq, ae_, hn.weak (fun k _ hk => by have h1 : W.heap.size ≤ k := hk; omega)⟩
 obtain ⟨m0, hr, hst⟩ := key;obtain ⟨ab, cb, nb, ah, ch, as_, cs, rfl⟩ := hst.now.xu;exact ⟨[.slice ab nb cb, .int .u64 m0.nv, .slice ah m0.homes.length ch, .slice as_ m0.seats.length cs, .int .u64 m0.ns, .int .u64 m0.a_], m0, rfl, hr, hst, hb.out⟩
theorem cn_ {W : World} {v : Value} {m : Ml} (h : pq W v m) : jw (fun k => k ≠ W.heap.size) W fun x => pq x v m := h.stay.weak (fun _ hk _ => zu hk)
end
section
open Go.RowKit
def hr_ (q : Rq) : ByteArray := if q.op = 9 then q.to_ else q.box
def Apart (m m' : Ml) (n : List UInt8) (new : Prop) : Prop := (∀ b ∈ m.boxes, b.name.data.toList ≠ n → b ∈ m'.boxes) ∧ ∀ t ∈ m'.boxes, (∃ b ∈ m.boxes, b.name = t.name) ∨ (t.name.data.toList = n ∧ new)
theorem Apart.same {m m' : Ml} {n : List UInt8} {new : Prop} (e : m'.boxes = m.boxes) : Apart m m' n new := ⟨fun b hb _ => by rw [e]; exact hb, fun t ht => .inl ⟨t, by rw [e] at ht; exact ht, rfl⟩⟩
theorem Apart.set {m : Ml} {n : List UInt8} {new : Prop} {i : Nat} (hi : i < m.boxes.length) (b : Bx) (hb : b.name = m.boxes[i].name) (hn : m.boxes[i].name.data.toList = n) : Apart m (qj m i b) n new := by
 refine ⟨fun x hx hne => ?_, fun t ht => .inl ?_⟩
 ·rcases Jm b hi hx with rfl | h
  ·exact absurd hn hne
  exact h
 rcases H_ ht with h | rfl
 ·exact ⟨t, h, rfl⟩
 exact ⟨m.boxes[i], bg hi, hb.symm⟩
end
section
open Go.RowKit
attribute [local go_sem ↓] Go.wp_at_zero Go.wp_at_succ
def ig_ (W : World) (m : Ml) (name : ByteArray) (e : Ending) (w' : World) : Prop := ∃ z : BxV, e = .returned (.tuple #[Gy z, .bool (Gw m name).isSome]) ∧ Hid (z.b = (Gw m name).getD bx0.b) ∧ Hid (jw (fun k => W.heap.size ≤ k) w' fun x => ve x z.v z.rows) ∧ Hid (Below W.heap.size W w')
end
section
open Go.RowKit
def okL (L : List Nat) : Nat → Prop := fun k => ∀ b ∈ L, k ≠ b
section
variable {w : World} {P : World → Prop} {L : List Nat}
theorem jw.okL {n : Nat} (h : jw (fun k => n ≤ k) w P) (hL : ∀ b ∈ L, b < n) : jw (okL L) w P := h.weak (fun k _ hk b hb => by have h1 := hL b hb; have h2 : n ≤ k := hk; omega)
theorem jw.Ev (h : jw (Go.Proofs.YtdobbfjmlnlieaaGreat.okL L) w P) {B : Nat} (hB : B ∈ L) (C : List Value) : jw (Go.Proofs.YtdobbfjmlnlieaaGreat.okL L) (w.setCells B 0 C) P := h.sets B C (fun _ hk _ => hk B hB)
theorem jw.Ib {L' : List Nat} (h : jw (Go.Proofs.YtdobbfjmlnlieaaGreat.okL L) w P) (hL : ∀ b ∈ L', b ∈ L) : jw (Go.Proofs.YtdobbfjmlnlieaaGreat.okL L') w P := h.weak (fun _ _ hk b hb => hk b (hL b hb))
theorem jw.one {MB : Nat} (h : jw (fun k => k ≠ MB) w P) : jw (Go.Proofs.YtdobbfjmlnlieaaGreat.okL [MB]) w P := h.weak (fun _ _ hk b hb => by rw [dx.1 hb]; exact hk)
theorem jw.hg_ {MB : Nat} (h : jw (Go.Proofs.YtdobbfjmlnlieaaGreat.okL [MB]) w P) : jw (fun k => k ≠ MB) w P := h.weak (fun _ _ hk => hk MB (dx.2 rfl))
end
theorem pq.nb {W : World} {m : Ml} {ab ah as_ : Option Addr} {nb cb nv nh ch ns cs nse sw : Nat} (h : pq W (.agg #[.slice ab nb cb, .int .u64 nv, .slice ah nh ch, .slice as_ ns cs, .int .u64 nse, .int .u64 sw]) m) : nb = m.boxes.length := by
 obtain ⟨vb, vh, vs, bs, e, hbs, hib, -, -⟩ := h;obtain ⟨ab2, cb2, rfl, -⟩ := hib.1;unfold yg at e;have e1 := jk (fun v => match v with | .agg a => a[0]? | _ => none) e;simp at e1;rw [e1.2.1, ← hbs, az]
def Ap7 (W : World) (MB TB : Nat) (m1 m2 : Ml) (wx : World) : Prop := ∃ C D : List Value, Zoo W wx [df TB D.toArray 27, df MB C.toArray 27] ∧ jw (okL [MB, TB]) wx (fun x => pq x (.agg C.toArray) m1) ∧ jw (okL [MB, TB]) wx (fun x => pq x (.agg D.toArray) m2)
theorem Ap7.below {W : World} {MB TB : Nat} {m1 m2 : Ml} {w w' : World} (h : Ap7 W MB TB m1 m2 w) (hb : Below w.heap.size w w') : Ap7 W MB TB m1 m2 w' := by
 obtain ⟨C, D, hz, hc, hd⟩ := h;exact ⟨C, D, hz.below hb, hc.below hb, hd.below hb⟩
def hv_ : List Value := [.string ⟨#[]⟩, .int .u64 0, .int .u64 0, .int .u64 0, .slice none 0 0]
def Fd (W : World) (m : Ml) (nm : ByteArray) (FB : Nat) (z : BxV) (wx : World) : Prop := z.b = (Gw m nm).getD bx0.b ∧ wx.heap[FB]? = some (.cells (rq z).toArray 48 (0, 0)) ∧ ve wx z.v z.rows ∧ Below W.heap.size W wx
end
section
open Go.RowKit
noncomputable def Gn (ok : Nat → Prop) (w : World) : World := by
 classical
 exact { w with heap := w.heap.mapIdx (fun k o => if ok k then o else .map #[] 0) }
theorem Rk {ok : Nat → Prop} {w : World} {k : Nat} (hk : ok k) : (Gn ok w).heap[k]? = w.heap[k]? := by
 classical
 unfold Gn;rw [Qz];cases w.heap[k]? with
 | none => rfl
 | some o => simp [hk]
theorem Vf {ok : Nat → Prop} {w : World} {p : Addr} {v : Value} (h : (Gn ok w).cell? p = some v) : ok p.block := by
 classical
 by_cases hk : ok p.block
 ·exact hk
 exfalso;unfold World.cell? Gn at h;simp only [Qz] at h;cases hw : w.heap[p.block]? with
 | none => rw [hw] at h; simp at h
 | some o => rw [hw] at h; simp [hk] at h
theorem Ve {ok : Nat → Prop} {w : World} : (Gn ok w).heap.size = w.heap.size := by
 unfold Gn;simp
theorem Rd.fix {ok : Nat → Prop} {w w' : World} {v : Value} {n : Nat} {cs : List Value} (h : Rd (Gn ok w) v n cs) (hn : n ≠ 0 → cs ≠ []) (hw : ∀ k, ok k → k < w.heap.size → w'.heap[k]? = w.heap[k]?) : Rd w' v n cs := by
 obtain ⟨ao, cap, hv, h | ⟨b, o, ha, hlt, hle, hc⟩⟩ := h
 ·exact ⟨ao, cap, hv, .inl h⟩
 by_cases h0 : n = 0
 ·exact ⟨ao, cap, hv, .inl h0⟩
 have hcell : ∀ i u, cs[i]? = some u → w'.cell? ⟨b, o + i, none⟩ = some u := fun i u hu => by
  have h1 := hc i u hu;have hk : ok b := Vf h1;have h2 : b < w.heap.size := by rw [Ve] at hlt; exact hlt
  rw [← h1];exact World.cell?_of_block (w := Gn ok w) ((hw b hk h2).trans (Rk hk).symm)
 refine ⟨ao, cap, hv, .inr ⟨b, o, ha, ?_, hle, hcell⟩⟩;obtain ⟨x, r, rfl⟩ := List.exists_cons_of_ne_nil (hn h0);exact fu _ _ (hcell 0 x rfl)
theorem Kr {α : Type} (R : RT α) {l : List α} (h : l.length ≠ 0) : R.cells l ≠ [] := by
 intro e;have h1 := R.kg l;rw [e] at h1;have h2 := R.pos;rcases Nat.mul_eq_zero.1 h1.symm with h3 | h3
 ·exact h h3
 omega
theorem hh_ {l : List (List UInt8)} (h : l.length ≠ 0) : l.map encStr ≠ [] := fun e => h (by rw [← az (f := encStr), e]; rfl)
def xm (W : World) (D : List Value) (m : Ml) (bs : List BxV) : Prop := ∃ (ab : Option Addr) (cb : Nat) (ah : Option Addr) (ch : Nat) (as_ : Option Addr) (cs : Nat), D = [.slice ab bs.length cb, .int .u64 m.nv, .slice ah m.homes.length ch, .slice as_ m.seats.length cs, .int .u64 m.ns, .int .u64 m.a_] ∧ bs.map BxV.b = m.boxes ∧ zo W (.slice ab bs.length cb) bs ∧ F_ W (.slice ah m.homes.length ch) m.homes ∧ z_ W (.slice as_ m.seats.length cs) m.seats
theorem xm.ml {W : World} {D : List Value} {m : Ml} {bs : List BxV} (h : xm W D m bs) : pq W (.agg D.toArray) m := by
 obtain ⟨ab, cb, ah, ch, as_, cs, rfl, hb, hi, hh, hs⟩ := h;exact ⟨_, _, _, bs, rfl, hb, hi, hh, hs⟩
theorem xm.below {W W' : World} {D : List Value} {m : Ml} {bs : List BxV} (h : xm W D m bs) (hb : Below W.heap.size W W') : xm W' D m bs := by
 obtain ⟨ab, cb, ah, ch, as_, cs, e, h1, hi, hh, hs⟩ := h;exact ⟨ab, cb, ah, ch, as_, cs, e, h1, hi.below hb, jf hh hb, jf hs hb⟩
theorem jw.fix {ok : Nat → Prop} {w : World} {D : List Value} {m : Ml} (h : jw ok w fun x => pq x (.agg D.toArray) m) : ∃ bs, jw ok w fun x => xm x D m bs := by
 obtain ⟨vb, vh, vs, bs, hv, hb, hi, hh, hs⟩ := h (Gn ok w) (fun k hk _ => Rk hk);obtain ⟨ab, cb, rfl, -⟩ := hi.1;obtain ⟨ah, ch, rfl, -⟩ := id hh;obtain ⟨as_, cs, rfl, -⟩ := id hs;unfold yg at hv;injection hv with hv;have hv := jk Array.toList hv;exact ⟨bs, fun w' hw => ⟨ab, cb, ah, ch, as_, cs, hv, hb, ⟨hi.1.fix (fun h => Kr bxT h) hw, fun y hy => ⟨(hi.2 y hy).1.fix (fun h => Kr ltT h) hw, fun z hz => Rd.fix ((hi.2 y hy).2 z hz) (fun h => hh_ h) hw⟩⟩, Rd.fix hh (fun h => Kr hmT h) hw, Rd.fix hs (fun h => Kr stT h) hw⟩⟩
def qg (L : List Nat) (W : World) (r : Ml × Oc) (e : Ending) (w' : World) : Prop := ∃ C O : List Value, e = .returned (.tuple #[.agg C.toArray, .agg O.toArray]) ∧ Hid (jw (okL L) w' fun x => pq x (.agg C.toArray) r.1) ∧ Hid (jw (okL L) w' fun x => Cf x (.agg O.toArray) r.2) ∧ Hid (Below W.heap.size W w')
theorem qg.no {L : List Nat} {W w' : World} {r : Ml × Oc} {m : Ml} {n : Int} {D : List Value} {bs : List BxV} (hr : r = (m, ocE n)) (hst : jw (okL L) W fun x => xm x D m bs) (hb : Below W.heap.size W w') : qg L W r (.returned (.tuple #[.agg D.toArray, .agg (ocN n).toArray])) w' := by
 subst hr;exact ⟨D, ocN n, rfl, hi_ ((hst.below hb).mono (fun _ h => h.ml)), hi_ (fun w _ => Tc w n), hi_ hb⟩
theorem ee_ {W : World} {a : Option Addr} {c : Nat} {l : List BxV} (h : Rd W (.slice a l.length c) l.length (bxT.cells l)) (i : Nat) (hi : i < l.length) : ∃ aX cX, (∀ w, (Instr.slice 22 (.slice a l.length c) none (some (.int .i64 (i : Int))) none).run prog w = .ok (.slice aX i cX) w) ∧ ∀ W', Rd W' (.slice a l.length c) l.length (bxT.cells l) → Rd W' (.slice aX i cX) (l.take i).length (bxT.cells (l.take i)) := by
 have he : prog.elem 22 = 48 := by kernel_rfl
 have hu : prog.underlying 22 = some (.slice (prog.elem 22)) := by rw [he]; exact underlying22
 obtain ⟨ao, cap, hv, hr⟩ := h;injection hv with e1 e2 e3;subst e1 e3;rcases hr with hr | ⟨b, o, rfl, -, hle, -⟩
 ·omega
 refine ⟨some ⟨b, o, none⟩, c, fun w => ?_, fun W' hW => bxT.Yx hW i (by omega)⟩;rw [run_slice_h (P := prog) (w := w) 22 _ l.length c hu .i64 (i : Int) (by omega) (by omega), he, sizeOf48 w];simp [Result.andThen, sliced, Addr.add]
theorem ed_ {W : World} {a : Option Addr} {c : Nat} {l : List BxV} (h : Rd W (.slice a l.length c) l.length (bxT.cells l)) (i : Nat) (hi : i < l.length) : ∃ aX cX, (∀ w, (Instr.slice 22 (.slice a l.length c) (some (.int .i64 ((i : Int) + 1))) none none).run prog w = .ok (.slice aX (l.length - (i + 1)) cX) w) ∧ ∀ W', Rd W' (.slice a l.length c) l.length (bxT.cells l) → Rd W' (.slice aX (l.length - (i + 1)) cX) (l.drop (i + 1)).length (bxT.cells (l.drop (i + 1))) := by
 have he : prog.elem 22 = 48 := by kernel_rfl
 have hu : prog.underlying 22 = some (.slice (prog.elem 22)) := by rw [he]; exact underlying22
 obtain ⟨ao, cap, hv, hr⟩ := h;injection hv with e1 e2 e3;subst e1 e3;rcases hr with hr | ⟨b, o, rfl, -, hle, -⟩
 ·omega
 have hrun := fun w => run_slice_l (P := prog) (w := w) 22 (some ⟨b, o, none⟩) l.length c hu .i64 ((i : Int) + 1) (by omega) (by omega);have hn : ((i : Int) + 1).toNat = i + 1 := by omega
 by_cases hc : c = i + 1
 ·refine ⟨some ⟨b, o, none⟩, c - (i + 1), fun w => ?_, fun W' hW => ?_⟩
  ·rw [hrun w, he, sizeOf48 w, hn];simp [Result.andThen, sliced, hc]
  have h0 : l.length - (i + 1) = 0 := by omega
  have h1 : (l.drop (i + 1)).length = 0 := by rw [iq]; exact h0
  rw [h1, h0];exact ⟨_, _, rfl, .inl rfl⟩
 refine ⟨some ⟨b, o + (i + 1) * 5, none⟩, c - (i + 1), fun w => ?_, fun W' hW => bxT.Yy hW (i + 1) _ (by omega) (by omega) _ rfl⟩;rw [hrun w, he, sizeOf48 w, hn];simp [Result.andThen, sliced, Addr.add, hc]
end
section
open Go.RowKit
theorem ws_ {P : Program} {ops : Array Oper} {o : Oper} {rest : List Oper} {a : Act} {w : World} {Q : Exit → Act → World → Prop} (t : TypeId) (x u : Operand) (b : Nat) (cs : List Value) (hsz : ∀ (w : World), (Go.sizeOf t).run P w = .ok cs.length w) (h1 : ∀ v ∈ cs, v.oneCell' = true) (hc : Hid ((∀ j, j < cs.length → (w.cell? ⟨b, 0 + j, none⟩).isSome = true) ∧ ∀ j, w.frozen? ⟨b, j, none⟩ = false))
  (h : Hid (wpList P ops Q rest (a.put o.dst undef) (w.setCells b 0 cs))) (hg : o.guard = none := by rfl) (ho : o.op = .store t x u := by rfl) (hx : a.eval x = .pointer (some ⟨b, 0, none⟩) := by rfl) (hu : a.eval u = .agg cs.toArray := by rfl) : wpList P ops Q (o :: rest) a w := ru hg t x u ho b 0 cs hx hu hsz h1 hc.out.1 hc.out.2 h.out
theorem wl_ {P : Program} {ops : Array Oper} {o : Oper} {rest : List Oper} {a : Act} {w : World} {Q : Exit → Act → World → Prop} (t : TypeId) (x : Operand) (b : Nat) (cs : List Value) (hagg : ∀ (w : World), (isAgg t).run P w = .ok true w) (hsz : ∀ (w : World), (Go.sizeOf t).run P w = .ok cs.length w) (hc : ∀ (j : Nat) (v : Value), cs[j]? = some v → w.cell? ⟨b, 0 + j, none⟩ = some v)
  (h : wpList P ops Q rest (a.put o.dst (.agg cs.toArray)) w) (hg : o.guard = none := by rfl) (ho : o.op = .load t x := by rfl) (hx : a.eval x = .pointer (some ⟨b, 0, none⟩) := by rfl) : wpList P ops Q (o :: rest) a w := Dk hg t x ho b 0 cs hx hagg hsz hc h
theorem rt_ {fn : Func} {R : Ending → World → Prop} {a : Act} {w : World} (B B2 : Nat) (C C2 : List Value) (hb : w.heap[B]? = some (.cells C.toArray 27 (0, 0))) (hb2 : w.heap[B2]? = some (.cells C2.toArray 35 (0, 0))) (hsz : ∀ w, (Go.sizeOf 27).run prog w = .ok C.length w) (hsz2 : ∀ w, (Go.sizeOf 35).run prog w = .ok C2.length w)
  (hR : R (.returned (.tuple #[.agg C.toArray, .agg C2.toArray])) w) (h : fn.results = #[.cell 4 27, .cell 5 35] := by rfl) (hp : a.tmps.getD 4 undef = .pointer (some ⟨B, 0, none⟩) := by rfl) (hu : a.tmps.getD 5 undef = .pointer (some ⟨B2, 0, none⟩) := by rfl) (hd : a.defers = [] := by rfl) : bodyPost prog fn R Exit.ret a w :=
 bodyPost_ret (Da h _ _ B B2 C C2 hp hu hb hb2 isAgg27 hsz isAgg35 hsz2) hd hR
theorem ku {W w : World} {L : List Th} {D : List Value} {RB OB : Nat} (n : Int) (hz : Zoo W w (df OB ([.int .i64 0, .int .u64 0, .int .u64 0, .slice none 0 0, .slice none 0 0] : List Value).toArray 35 :: df RB ([.slice none 0 0, .int .u64 0, .slice none 0 0, .slice none 0 0, .int .u64 0, .int .u64 0] : List Value).toArray 27 :: L)) (hl : D.length = 6) :
  Hid ((∀ j, j < D.length → (w.cell? ⟨RB, 0 + j, none⟩).isSome = true) ∧ ∀ j, w.frozen? ⟨RB, j, none⟩ = false) ∧ Hid ((∀ j, j < (ocN n).length → ((w.setCells RB 0 D).cell? ⟨OB, 0 + j, none⟩).isSome = true) ∧ ∀ j, (w.setCells RB 0 D).frozen? ⟨OB, j, none⟩ = false) ∧ Hid (Zoo W ((w.setCells RB 0 D).setCells OB 0 (ocN n)) (df OB (ocN n).toArray 35 :: df RB D.toArray 27 :: L)) := by
 have h1 := hz.m_ 1 rfl;have h2 := hz.mq 1 rfl D hl;have h3 := h2.m_ 0 rfl;exact ⟨hi_ (sm_ h1 hl), hi_ (sm_ h3 rfl), hi_ (h2.mq 0 rfl (ocN n) rfl)⟩
end
section
open Go.RowKit
attribute [local go_sem ↓] Go.wp_at_zero Go.wp_at_succ
set_option maxRecDepth 100000 in
set_option maxHeartbeats 8000000 in
theorem Qn {W : World} (L : List Nat) (m : Ml) (q : Rq) (y : RqV) (D : List Value) (bs : List BxV) (hst : jw (okL L) W fun x => xm x D m bs) (hqi : jw (okL L) W fun x => Ac x q y) (hL : ∀ b ∈ L, b < W.heap.size) (hlb : m.boxes.length ≤ 1000) :
  Calls prog 51 #[.agg D.toArray, .agg (fq q y).toArray] W (qg L W (mf (uo m q oc0))) := by
 have hlD : Hid (D.length = 6) := hi_ (by obtain ⟨_, _, _, _, _, _, rfl, -⟩ := hst.now; rfl);have h1D : Hid (∀ v ∈ D, v.oneCell' = true) := hi_ (by obtain ⟨_, _, _, _, _, _, rfl, -⟩ := hst.now; exact xy _ _ _ _ _ _ _ _ _ _ _ _);have hsz : Hid (∀ w, (Go.sizeOf 27).run prog w = .ok D.length w) := hi_ (fun w => by rw [hlD.out]; exact sizeOf27 w);have hz1 := ((ny W).dz D.toArray 27);generalize hMB : W.heap.size = MB at hz1;generalize hWa : (W.alloc (.cells D.toArray 27)) = Wa at hz1;have hz2 := hz1.dz (fq q y).toArray 41;generalize hQB : Wa.heap.size = QB at hz2;generalize hWb : (Wa.alloc (.cells (fq q y).toArray 41)) = Wb at hz2;have hz3 := hz2.dz mlZ.toArray 27;unfold mlZ at hz3;generalize hRB : Wb.heap.size = RB at hz3;generalize hWc : (Wb.alloc (.cells ([.slice none 0 0, .int .u64 0, .slice none 0 0, .slice none 0 0, .int .u64 0, .int .u64 0] : List Value).toArray 27)) = Wc at hz3;have hz4 := hz3.dz ocZ.toArray 35;unfold ocZ at hz4;generalize hOB : Wc.heap.size = OB at hz4;generalize hWd : (Wc.alloc (.cells ([.int .i64 0, .int .u64 0, .int .u64 0, .slice none 0 0, .slice none 0 0] : List Value).toArray 35)) = Wd at hz4;replace hz4 := hi_ hz4;replace hst := hi_ hst;replace hqi := hi_ hqi;replace hL := hi_ hL;clear hz1 hz2 hz3;go_enter func51, ntmps51;go_upto_region 1 with fail;clear hWa hQB hWb hRB hWc hOB hWd;replace hMB := hi_ hMB;obtain ⟨hbQ, -⟩ := hz4.out.box 2 rfl;have q6 : Wd.cell? ⟨QB, 6, none⟩ = some (.string q.box) := bc_ hbQ 6;clear hbQ;cases hin : (q.box.toList == [73, 78, 66, 79, 88]) with
 | true =>
  have hres : Hid (mf (uo m q oc0) = (m, ocE 1)) := hi_ (by unfold uo Ag; rw [hin, dh rfl]; rfl);go_upto_region 2 with fail;clear q6 hin;have hld := hi_ (ld_ (hz4.out.box 3 rfl).1);go_wp2_with (refine wl_ 27 (.tmp 2) MB D isAgg27 hsz.out hld.out ?_);refine (xh D hlD.out h1D.out 1).mono ?_;rintro e w41 ⟨rfl, hb41⟩;dsimp only;obtain ⟨hs1, hs2, hzF⟩ := ku 1 (hz4.out.below hb41.out) hlD.out;clear hb41 hld;go_wp2_with (refine ws_ 27 (.tmp 4) (.tmp 12) RB D hsz.out h1D.out hs1 ?_);refine hi_ ?_;generalize (w41.setCells RB 0 D) = w42 at hzF hs2 ⊢;go_wp2_with (refine ws_ 35 (.tmp 5) (.tmp 13) OB (ocN 1) sizeOf35 (j5 1) hs2 ?_);refine hi_ ?_;generalize (w42.setCells OB 0 (ocN 1)) = w43 at hzF ⊢;clear hs1 hs2;go_wp2_with fail;refine rt_ RB OB D (ocN 1) (hzF.out.box 1 rfl).1 (hzF.out.box 0 rfl).1 hsz.out sizeOf35 ?_;exact qg.no hres.out hst.out hzF.out.bel
 | false =>
  obtain ⟨ab, cb, ah, ch, as_, cs, hD, hbs, hib, hih, his⟩ := (hst.out.below hz4.out.bel).now;have hbl : bs.length ≤ 1000 := by rw [← hbs, az] at hlb; exact hlb
  have hat := hi_ (Ck (W := Wd) D ab cb bs q.box (by rw [hD]; rfl) hib (by omega));rw [hbs] at hat;have hib0 : Hid (∀ w', Below Wd.heap.size Wd w' → zo w' (.slice ab bs.length cb) bs) := hi_ (fun w' h => hib.below h);replace hD := hi_ hD;clear hib hih his;obtain ⟨hbM, -⟩ := hz4.out.box 3 rfl;have hld := hi_ (fun j v (hj : D[j]? = some v) => (show Wd.cell? ⟨MB, 0 + j, none⟩ = some v by rw [di, bc_ hbM j, ai]; exact hj));clear hbM;go_wp2_with (refine Dk rfl 27 (.tmp 2) rfl MB 0 D (by rfl) isAgg27 hsz.out hld.out ?_);refine hat.out.mono ?_;rintro e w5 ⟨rfl, hb5⟩;dsimp only;have hz5 := hi_ (hz4.out.below hb5.out);clear hat hld q6;rcases mi (fun x : Bx => x.name.toList == q.box.toList) m.boxes with ⟨e1, e2⟩ | ⟨i, hi, e1, e2⟩
  ·rw [e2];have hres : Hid (mf (uo m q oc0) = (m, ocE 6)) := hi_ (by unfold uo Ag; rw [hin, e1]; rfl);clear e1 e2 hin;go_upto_region 5 with fail;have hld := hi_ (ld_ (hz5.out.box 3 rfl).1);go_wp2_with (refine wl_ 27 (.tmp 2) MB D isAgg27 hsz.out hld.out ?_);refine (xh D hlD.out h1D.out 6).mono ?_;rintro e w41 ⟨rfl, hb41⟩;dsimp only;obtain ⟨hs1, hs2, hzF⟩ := ku 6 (hz5.out.below hb41.out) hlD.out;clear hb41 hld;go_wp2_with (refine ws_ 27 (.tmp 4) (.tmp 22) RB D hsz.out h1D.out hs1 ?_);refine hi_ ?_;generalize (w41.setCells RB 0 D) = w42 at hzF hs2 ⊢;go_wp2_with (refine ws_ 35 (.tmp 5) (.tmp 23) OB (ocN 6) sizeOf35 (j5 6) hs2 ?_);refine hi_ ?_;generalize (w42.setCells OB 0 (ocN 6)) = w43 at hzF ⊢;clear hs1 hs2;go_wp2_with fail;refine rt_ RB OB D (ocN 6) (hzF.out.box 1 rfl).1 (hzF.out.box 0 rfl).1 hsz.out sizeOf35 ?_;exact qg.no hres.out hst.out hzF.out.bel
  rw [e2];have hres : Hid (mf (uo m q oc0) = ({ m with boxes := m.boxes.take i ++ m.boxes.drop (i + 1) }, oc0)) := hi_ (by unfold uo Ag; rw [hin, e1]; rfl);have hil : i < bs.length := by rw [← hbs, az] at hi; exact hi
  have hi0 : ¬ (i : Int) < 0 := by omega
  have hi1 : decide ((i : Int) < 0) = false := aj hi0;clear e1 e2 hin;have hib5 : Hid (∀ w', Below w5.heap.size w5 w' → zo w' (.slice ab bs.length cb) bs) := hi_ (fun w' h => hib0.out w' (hb5.out.trans (h.mono hb5.out.size)));obtain ⟨aH, cH, hsl1, hrd1⟩ := ee_ (hib5.out w5 (ae _ _)).1 i hil;obtain ⟨aT, cT, hsl2, hrd2⟩ := ed_ (hib5.out w5 (ae _ _)).1 i hil;replace hrd1 := hi_ hrd1;replace hrd2 := hi_ hrd2;have hS : Hid (∀ w', Below w5.heap.size w5 w' → w'.cell? ⟨MB, 0, none⟩ = some (.slice ab bs.length cb)) := hi_ (fun w' h => by
   obtain ⟨hbM, -⟩ := (hz5.out.below h).box 3 rfl;rw [bc_ hbM 0, ai, hD.out]; rfl)
  have hbd : Below w5.heap.size w5 w5.drew := (ae _ _).drew;have hwr : IntKind.i64.wrap ((i : Int) + 1) = (i : Int) + 1 := IntWalk.i64_in _ (by omega);clear hi;go_upto_region 6 with fail;clear hi0 hi1;refine wr_ (fun w' => w'.cell? ⟨MB, 0, none⟩ = some (.slice ab bs.length cb)) 13 1 (hS.out _ hbd) fun hok hS0 => ?_;have hzd := hz5.out.drew;generalize w5.drew = We at *;refine av hok 1 ?_;refine av hok 2 ?_;refine av hok 3 ?_;refine av hok 4 ?_;refine av hok 6 ?_;refine av hok 7 ?_;refine av hok 8 ?_;refine av hok 9 ?_;refine av hok 10 ?_;refine g_ 0 fun K hK => ?_;go_simp;have hba := (ae We.heap.size We).alloc (ax _) (.cells #[] 48);have hzr := hzd.newRow hba (RT.Own.empty bxT We We.heap.size rfl) (fun g hg => by simp [Value.ownBlock] at hg; omega);have hbe := hbd.trans (hba.mono hbd.size);generalize (We.alloc (.cells #[] 48)) = Wf at hzr hbe ⊢;have hNB : w5.heap.size ≤ We.heap.size := hbd.size;generalize We.heap.size = NB at hzr hNB ⊢;have hSn := hS.out _ hbe;refine hK _ _ hSn ?_;clear hK K;try simp only [nrm_, Act.put]
  refine g_ 5 fun K hK => ?_;obtain ⟨F, ⟨ho1, hF⟩, -, hact⟩ := hzr.act 0 (bxT.row (.slice (some ⟨NB, 0, none⟩) 0 0) []) rfl;refine bxT.jv rfl (.tmp 24) (.tmp 28) rfl _ _ [] (bs.take i) rfl rfl ho1 (by
   have h := hrd1.out Wf (hib5.out Wf hbe).1;rw [show (bs.take i).length = i from by rw [bf]; omega] at h ⊢;exact h) (by rw [bf]; simp; omega) ?_
  intro v8 w8 ho8 hg8 hat8;have hz8 := hact (bxT.row v8 ([] ++ bs.take i)) (fun k => v8.ownBlock = some k) w8 ⟨ho8, fun _ => j6⟩ (iy hF hg8 hat8);have hb8 := hbe.grown hg8 hbe.size (fun k hk => by have h : some NB = some k := hk; have := jc h; omega);have hlo8 : ∀ k, v8.ownBlock = some k → w5.heap.size ≤ k := fun k hk => by
   rcases hat8 k hk with h | h
   ·have h : some NB = some k := h;have := jc h;omega
   have := hbe.size; omega
  rw [zq] at hz8;replace hz8 := hi_ hz8;replace hlo8 := hi_ hlo8;clear hact hF ho1 ho8 hg8 hat8 hzr;have hSn := hS.out _ hb8;refine hK _ _ hSn ?_;clear hK K;try simp only [nrm_, Act.put]
  refine g_ 11 fun K hK => ?_;obtain ⟨F, ⟨ho1, hF⟩, -, hact⟩ := hz8.out.act 0 (bxT.row v8 (bs.take i)) rfl;refine bxT.jv rfl (.tmp 29) (.tmp 34) rfl _ _ (bs.take i) (bs.drop (i + 1)) rfl rfl ho1 (by
   have h := hrd2.out w8 (hib5.out w8 hb8).1;rw [show (bs.drop (i + 1)).length = bs.length - (i + 1) from iq] at h ⊢;exact h) (by rw [bf, iq]; omega) ?_
  intro v9 w9 ho9 hg9 hat9;have hz9 := hact (bxT.row v9 (bs.take i ++ bs.drop (i + 1))) (fun k => v9.ownBlock = some k) w9 ⟨ho9, fun _ => j6⟩ (iy hF hg9 hat9);have hb9 := hb8.grown hg9 hb8.size hlo8.out;obtain ⟨a9, c9, rfl⟩ := ho9.len;replace hz9 := hi_ hz9;clear hact hF ho1 ho9 hg9 hat9 hz8 hlo8;have hSn := hS.out _ hb9;refine hK _ _ hSn ?_;clear hK K;refine av hok 12 ?_;refine kw ?_;obtain ⟨hbM, -⟩ := hz9.out.box 4 rfl;have f0 : w9.frozen? ⟨MB, 0, none⟩ = false := bf_ hbM 0;have x0 : w9.cell? ⟨MB, 0, none⟩ = some (.slice ab bs.length cb) := hSn;have hzS := hz9.out.il 4 rfl 0 (.slice a9 (bs.take i ++ bs.drop (i + 1)).length c9);clear hok hS0 hbM hS hib0 hsl1 hsl2 hrd1 hrd2 hSn hz5;generalize hnn : (bs.take i ++ bs.drop (i + 1)).length = n9 at *;replace hnn := hi_ hnn;go_upto_region 7 with fail;clear x0 f0;generalize (w9.setCell ⟨MB, 0, none⟩ (.slice a9 n9 c9)) = w10 at hzS ⊢;obtain ⟨D2, hD2⟩ : ∃ D2 : List Value, D2 = D.set 0 (.slice a9 n9 c9) := ⟨_, rfl⟩;rw [← hD2] at hzS;have hzS : Zoo W w10 [bxT.row (.slice a9 n9 c9) (bs.take i ++ bs.drop (i + 1)), df OB ([.int .i64 0, .int .u64 0, .int .u64 0, .slice none 0 0, .slice none 0 0] : List Value).toArray 35, df RB ([.slice none 0 0, .int .u64 0, .slice none 0 0, .slice none 0 0, .int .u64 0, .int .u64 0] : List Value).toArray 27, df QB (fq q y).toArray 41, df MB D2.toArray 27] := hzS;have hlD2 : D2.length = 6 := by rw [hD2, gq]; exact hlD.out
  have h1D2 : ∀ v ∈ D2, v.oneCell' = true := fun v hv => by
   rw [hD2] at hv;rcases lh hv with h | rfl
   ·exact h1D.out v h
   rfl
  have hsz2 : ∀ w, (Go.sizeOf 27).run prog w = .ok D2.length w := fun w => by rw [hlD2]; exact sizeOf27 w
  obtain ⟨hbM, -⟩ := hzS.box 4 rfl;have hld := hi_ (fun j v (hj : D2[j]? = some v) => (show w10.cell? ⟨MB, 0 + j, none⟩ = some v by rw [di, bc_ hbM j, ai]; exact hj));have hs1 := (hzS.m_ 2 rfl);have hs1' := hi_ (bu (fun j (hj : j < D2.length) => hs1.1 j (by rw [hlD2] at hj; exact hj)) hs1.2);have hz42 := hzS.mq 2 rfl D2 hlD2;have hs2 := hi_ (hz42.m_ 1 rfl);have hzF := hi_ (hz42.mq 1 rfl (ocN 0) rfl);replace hsz2 := hi_ hsz2;replace h1D2 := hi_ h1D2;replace hD2 := hi_ hD2;clear hbM hs1 hz42 hzS hlD2 hz9 hzd;go_wp2_with (first
   | refine Dk rfl 27 (.tmp 2) rfl MB 0 D2 (by rfl) isAgg27 hsz2.out hld.out ?_
   | (refine ru rfl 27 (.tmp 4) (.tmp 37) rfl RB 0 D2 (by rfl) (by rfl) hsz2.out h1D2.out hs1'.out.1 hs1'.out.2 ?_; refine Ae ?_))
  refine hi_ ?_;generalize (w10.setCells RB 0 D2) = w11 at hzF hs2 ⊢;go_wp2_with (refine ru rfl 35 (.tmp 5) (.tmp 38) rfl OB 0 (ocN 0) (by rfl) (by rfl) sizeOf35 (j5 0) hs2.out.1 hs2.out.2 ?_; refine Ae ?_);refine hi_ ?_;generalize (w11.setCells OB 0 (ocN 0)) = w12 at hzF ⊢;clear hs1' hs2 hld;go_wp2_with fail;refine bodyPost_ret (Da rfl _ _ RB OB D2 (ocN 0) rfl rfl (hzF.out.box 2 rfl).1 (hzF.out.box 1 rfl).1 isAgg27 hsz2.out isAgg35 sizeOf35) rfl ?_;have hrow : jw (okL L) w12 (fun x => Rd x (.slice a9 n9 c9) n9 (bxT.cells (bs.take i ++ bs.drop (i + 1)))) := (Zoo.stay hzF.out (fun _ _ => rfl) (fun W0 w' hz => by have h := (hz.own 0 rfl).rd; rw [hnn.out] at h; exact h) (fun _ _ h hb => jf h hb)).okL hL.out;have hstF := hst.out.below hzF.out.bel;refine ⟨D2, ocN 0, rfl, hi_ (fun x hx => ?_), hi_ (fun w _ => ?_), hi_ hzF.out.bel⟩
  ·rw [hres.out];obtain ⟨ab', cb', ah', ch', as', cs', e1, e2, e3, e4, e5⟩ := hstF x hx;have h6 := hrow x hx;refine ⟨.slice a9 n9 c9, .slice ah' m.homes.length ch', .slice as' m.seats.length cs', bs.take i ++ bs.drop (i + 1), ?_, ?_, ⟨by rw [hnn.out]; exact h6, fun y hy => e3.2 y ?_⟩, e4, e5⟩
   ·rw [hD2.out, e1]; rfl
   ·show _ = m.boxes.take i ++ m.boxes.drop (i + 1);rw [fo, List.map_take, List.map_drop, hbs]
   rcases fe.1 hy with h | h
   ·exact Cr h
   exact Hq h
  rw [hres.out]; exact Tc w 0
end
end Go.Proofs.YtdobbfjmlnlieaaGreat
