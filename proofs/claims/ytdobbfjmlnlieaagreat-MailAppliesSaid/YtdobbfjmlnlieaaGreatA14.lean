/- An operation on a right state leaves a right state: plain; The document's answer whether homes and seats may be: walked -/
import Derived.Test.YtdobbfjmlnlieaaGreatA01
import Derived.Test.YtdobbfjmlnlieaaGreatA11
import Derived.Test.YtdobbfjmlnlieaaGreatA13
namespace Go.Proofs.YtdobbfjmlnlieaaGreat
set_option linter.unusedSimpArgs false
namespace Tryz
end Tryz
open Go.Proofs.Tryz Go.Proofs.YtdobbfjmlnlieaaGreat.Tryz
section
open Go.RowKit
theorem Xo {α : Type} {R : α → α → Prop} {l : List α} (h : l.Pairwise R) {i : Nat} (hi : i < l.length) (b : α) (h1 : ∀ x, R x l[i] → R x b) (h2 : ∀ x, R l[i] x → R b x) : (l.set i b).Pairwise R := by
 rw [gm] at h ⊢;intro j k hj hk hjk;rw [gq] at hj hk;rw [Nn, Nn];by_cases e : i = j
 ·subst e;rw [dh rfl, bq (by omega)];exact h2 _ (h _ _ hj hk hjk)
 rw [bq e];by_cases e2 : i = k
 ·subst e2;rw [dh rfl];exact h1 _ (h _ _ hj hk hjk)
 rw [bq e2];exact h _ _ hj hk hjk
theorem H_ {α : Type} {l : List α} {i : Nat} {b x : α} (hx : x ∈ l.set i b) : x ∈ l ∨ x = b := lh hx
theorem Jm {α : Type} {l : List α} {i : Nat} (b : α) {x : α} (hi : i < l.length) (hx : x ∈ l) : x = l[i] ∨ x ∈ l.set i b := by
 obtain ⟨j, hj, rfl⟩ := gu.1 hx;by_cases e : i = j
 ·subst e; exact .inl rfl
 exact .inr (gu.2 ⟨j, by rw [gq]; exact hj, by rw [Nn, bq e]⟩)
theorem Ug {α : Type} {l : List α} {i : Nat} (b : α) (hi : i < l.length) : b ∈ l.set i b := gu.2 ⟨i, by rw [gq]; exact hi, by rw [Nn, dh rfl]⟩
theorem Zd {α : Type} (lt : α → α → Bool) (f : α) {R : α → α → Prop} : ∀ l : List α, l.Pairwise R → (∀ x ∈ l, R f x ∧ R x f) → (uh lt f l).Pairwise R
 | [], _, _ => by simp [uh]
 | a :: r, h, h2 => by
  have h' := jg.1 h;unfold uh;split
  ·exact jg.2 ⟨fun y hy => (h2 y hy).1, h⟩
  refine jg.2 ⟨fun y hy => ?_, Zd lt f r h'.2 (fun x hx => h2 x (jh _ hx))⟩;rcases (xw lt f y r).1 hy with rfl | hy
  ·exact (h2 a (by simp)).2
  exact h'.1 y hy
theorem Pb {α : Type} (lt : α → α → Bool) (f : α) (ht : ∀ x y z : α, lt x y = true → lt y z = true → lt x z = true) : ∀ l : List α, l.Pairwise (fun x y => lt x y = true) → (∀ x ∈ l, lt f x = false → lt x f = true) → (uh lt f l).Pairwise (fun x y => lt x y = true)
 | [], _, _ => by simp [uh]
 | a :: r, h, h2 => by
  have h' := jg.1 h;unfold uh;split
  ·rename_i hl;refine jg.2 ⟨fun y hy => ?_, h⟩;rcases d_.1 hy with rfl | hy
   ·exact hl
   exact ht _ _ _ hl (h'.1 y hy)
  rename_i hl;refine jg.2 ⟨fun y hy => ?_, Pb lt f ht r h'.2 (fun x hx => h2 x (jh _ hx))⟩;rcases (xw lt f y r).1 hy with rfl | hy
  ·exact h2 a (by simp) (by simpa using hl)
  exact h'.1 y hy
theorem Y_ {x : Bx} {n : ByteArray} (h : (x.name.toList == n.toList) = true) : x.name.data.toList = n.data.toList := by
 rw [Ie] at h;exact eq_of_beq h
theorem fo_ {x : Bx} {n : ByteArray} (h : (x.name.toList == n.toList) = false) : x.name.data.toList ≠ n.data.toList := fun e => by
 rw [Ie, e] at h;simp at h
theorem zm.box {m m' : Ml} (h : zm m) (h1 : m'.homes = m.homes) (h2 : m'.seats = m.seats) (h3 : m'.ns = m.ns) : zm m' := by
 refine ⟨?_, ?_, ?_, ?_, ?_⟩
 ·rw [h1]; exact h.homes
 ·rw [h1]; exact h.hup
 ·rw [h2]; exact fun x hx => ⟨(h.seats x hx).s1, by rw [h3]; exact (h.seats x hx).s2, (h.seats x hx).t1, by rw [h1]; exact (h.seats x hx).home⟩
 ·rw [h2]; exact h.sup
 rw [h2]; exact h.twin
theorem jq.qj {m : Ml} (h : jq m) {i : Nat} (hi : i < m.boxes.length) (b : Bx) (hn : b.name = m.boxes[i].name) (hv : b.ag = m.boxes[i].ag) (hb : Im b m.nv) : jq (qj m i b) where
 lb := by show (m.boxes.set i b).length ≤ 8; rw [gq]; exact h.lb
 nv := h.nv
 ns1 := h.ns1
 ns2 := h.ns2
 sw := h.sw
 ls := h.ls
 boxes := fun x hx => by
  rcases H_ hx with hx | rfl
  ·exact h.boxes x hx
  exact hb
 names := Xo h.names hi b (fun x hx => by unfold mh at hx ⊢; rw [hn]; exact hx) (fun x hx => by unfold mh at hx ⊢; rw [hn]; exact hx)
 vals := Xo h.vals hi b (fun x hx => by rw [hv]; exact hx) (fun x hx => by rw [hv]; exact hx)
 inbox := by
  obtain ⟨x, hx, e⟩ := h.inbox;rcases Jm b hi hx with rfl | hx
  ·exact ⟨b, Ug b hi, by rw [hn]; exact e⟩
  exact ⟨x, hx, e⟩
 seated := h.seated.box rfl rfl rfl
theorem Py.more {x : Lt} {b b' : Bx} (h : Py x b) (h1 : b.next ≤ b'.next) (h2 : b.high ≤ b'.high) : Py x b' := ⟨h.u1, by have := h.u2; omega, h.fl, h.m1, by have := h.m2; omega, h.hs, h.sz⟩
theorem Xu {m : Ml} {q : Rq} {o : Oc} (h : jq m) : jq (df_ m q o).2.1 := h
theorem Uc {m : Ml} {q : Rq} {o : Oc} (h : jq m) : jq (Jk m q o).2.1 := by
 unfold Jk;split
 ·exact h
 exact ⟨h.lb, h.nv, h.ns1, h.ns2, by have := h.sw; show m.a_ + 1 ≤ _; omega, h.ls, h.boxes, h.names, h.vals, h.inbox, h.seated.box rfl rfl rfl⟩
theorem bh_ {m : Ml} {q : Rq} {o : Oc} (h : jq m) : jq (bi_ m q o).2.1 := by
 have hs : (m.seats.filter (fun x => !(x.session == q.session))).Sublist m.seats := Df;exact ⟨h.lb, h.nv, h.ns1, h.ns2, h.sw, ed hs.length_le h.ls, h.boxes, h.names, h.vals, h.inbox, ⟨h.seated.homes, h.seated.hup, fun x hx => ⟨(h.seated.seats x (hs.subset hx)).s1, (h.seated.seats x (hs.subset hx)).s2, (h.seated.seats x (hs.subset hx)).t1, (h.seated.seats x (hs.subset hx)).home⟩, h.seated.sup.sublist hs, h.seated.twin.sublist hs⟩⟩
theorem jq.nv1 {m : Ml} (h : jq m) : 1 ≤ m.nv := by
 obtain ⟨b, hb, -⟩ := h.inbox;have h1 := (h.boxes b hb).v1;have h2 := (h.boxes b hb).v2;omega
theorem Tn {m : Ml} {q : Rq} {o : Oc} (h : jq m) : jq (nk m q o).2.1 := by
 unfold nk;split
 ·exact h
 rename_i h1;have hok : uu q.box.data.toList = true := by cases hh : uu q.box.data.toList with | false => exact absurd (.inl hh) h1 | true => rfl
 have hnm : Kw q.box.data.toList = q.box.data.toList := Classical.byContradiction fun hh => h1 (.inr hh);split
 ·exact h
 rename_i hf;split
 ·exact h
 split
 ·exact h
 rename_i h2 h3;have hno : ∀ x ∈ m.boxes, x.name.data.toList ≠ q.box.data.toList := fun x hx => fo_ (l8.1 hf x hx);have hnv := h.nv1;exact {
  lb := by show (uh mh _ m.boxes).length ≤ 8; rw [Km]; omega
  nv := by show m.nv + 1 ≤ _; omega
  ns1 := h.ns1
  ns2 := h.ns2
  sw := h.sw
  ls := h.ls
  boxes := fun x hx => by
   show Im x (m.nv + 1);rcases (xw mh _ x m.boxes).1 hx with rfl | hx
   ·exact ⟨hok, hnm, hnv, Nat.lt_succ_self _, ax 1, (by show (1 : Nat) ≤ 4294967296; omega), ax 1, (by show (1 : Nat) ≤ 9223372036854775807; omega), dw _, (fun x hx => by cases hx), tq⟩
   have hb := h.boxes x hx;exact ⟨hb.ok, hb.nm, hb.v1, Nat.lt_succ_of_lt hb.v2, hb.n1, hb.n2, hb.h1, hb.h2, hb.len, hb.lets, hb.up⟩
  names := Pb mh _ (fun x y z a b => qm.trans _ _ _ a b) m.boxes h.names (fun x hx hl => by
   rcases Fx x.name.data.toList q.box.data.toList with h3 | h3 | h3
   ·exact h3
   ·exact absurd h3 (hno x hx)
   have hl' : bytesBefore q.box.data.toList x.name.data.toList = false := hl;rw [h3] at hl'; cases hl')
  vals := Zd mh _ m.boxes h.vals (fun x hx => ⟨fun e => by have := (h.boxes x hx).v2; dsimp only at e; omega, fun e => by have := (h.boxes x hx).v2; dsimp only at e; omega⟩)
  inbox := by
   obtain ⟨b, hb, e⟩ := h.inbox;exact ⟨b, (xw mh _ b m.boxes).2 (.inr hb), e⟩
  seated := h.seated.box rfl rfl rfl }
theorem Sv {m : Ml} {q : Rq} {o : Oc} (h : jq m) : jq (uo m q o).2.1 := by
 unfold uo;split
 ·exact h
 rename_i hi;split
 ·exact h
 rename_i i hf;obtain ⟨hl, he, -⟩ := jm.1 hf;have hne : m.boxes[i].name.data.toList ≠ Ag := by
  rw [Y_ he];intro e;rw [ib, e] at hi;exact hi (by simp)
 have hs : (m.boxes.take i ++ m.boxes.drop (i + 1)).Sublist m.boxes := by
  rw [← Ga]; exact Gb ..
 exact {
  lb := ed hs.length_le h.lb
  nv := h.nv
  ns1 := h.ns1
  ns2 := h.ns2
  sw := h.sw
  ls := h.ls
  boxes := fun x hx => h.boxes x (hs.subset hx)
  names := h.names.sublist hs
  vals := h.vals.sublist hs
  inbox := by
   obtain ⟨b, hb, e⟩ := h.inbox;obtain ⟨j, hj, rfl⟩ := gu.1 hb;refine ⟨m.boxes[j], ?_, e⟩;show m.boxes[j] ∈ m.boxes.take i ++ m.boxes.drop (i + 1);rw [← Ga, List.mem_eraseIdx_iff_getElem];exact ⟨j, hj, fun hji => by subst hji; exact hne e, rfl⟩
  seated := h.seated.box rfl rfl rfl }
theorem append_right {m : Ml} {q : Rq} {o : Oc} (h : jq m) : jq (lq m q o).2.1 := by
 unfold lq;split
 ·exact h
 rename_i i hf;obtain ⟨hl, -, -⟩ := jm.1 hf;rw [ay hl];dsimp only;have hb := h.boxes _ (bg hl);generalize hB : m.boxes[i] = b at *;split
 ·exact h
 rename_i h1;split
 ·exact h
 split
 ·exact h
 split
 ·exact h
 rename_i h2 h3 h4;have g1 : kr q.flags = true := by cases hh : kr q.flags with | false => exact absurd (.inl hh) h1 | true => rfl
 have g2 : q.hash.size = 32 := Classical.byContradiction fun hh => h1 (.inr (.inl hh));have g3 : q.size ≤ 4096 := Nat.le_of_not_lt fun hh => h1 (.inr (.inr hh));have g4 : ¬ 4294967295 < b.next := fun hh => h4 (.inl hh);have g5 : ¬ 9223372036854775807 ≤ b.high := fun hh => h4 (.inr hh);have hn1 := hb.n1;have hh1 := hb.h1;refine h.qj hl _ (by rw [hB]; rfl) (by rw [hB]; rfl) ⟨hb.ok, hb.nm, hb.v1, hb.v2, E_ hb.n1, by show b.next + 1 ≤ _; omega, E_ hb.h1, by show b.high + 1 ≤ _; omega, ?_, fun x hx => ?_, ?_⟩
 ·show (b.letters ++ [Ux b q]).length ≤ 32;rw [bz, bi]; omega
 ·rcases fe.1 hx with hx | hx
  ·exact (hb.lets x hx).more (Nat.le_succ _) (Nat.le_succ _)
  rw [dx.1 hx];exact ⟨hn1, Nat.lt_succ_self _, g1, Nat.succ_pos _, ax _, g2, g3⟩
 show (b.letters ++ [Ux b q]).Pairwise _;refine j3.2 ⟨hb.up, by simp, fun x hx y hy => ?_⟩;rw [dx.1 hy];exact (hb.lets x hx).u2
theorem Ow {m : Ml} {q : Rq} {i : Nat} (h : uf m q = some i) : ∃ hi : i < m.boxes.length, m.boxes[i].name.data.toList = q.box.data.toList := by
 unfold uf at h;split at h
 ·cases h
 rename_i j hf;obtain ⟨hl, he, -⟩ := jm.1 hf;split at h
 ·have := jc h;subst this;exact ⟨hl, Y_ he⟩
 cases h
theorem Vw {l by_ : List (List UInt8)} {how : Int} (h1 : kr l = true) (h2 : kr by_ = true) (h3 : 0 ≤ how) (h4 : how ≤ 2) (h5 : zl l how by_ = 0) : kr (Ao l how by_) = true := by
 have hok := Ym h1 h2 h3 (by omega : how < 3);unfold zl at h5;rw [hok, dh rfl] at h5;have h6 : ¬ 16 < (ni (Ed l how by_)).length := fun hh => by rw [dh hh] at h5; cases h5
 unfold Ao;rw [hok, dh rfl, bq h6];have g1 := (x_ l).1 h1;have g2 := (x_ by_).1 h2;refine (x_ _).2 ⟨fun f hf => ?_, by omega, En uz _⟩;have hf2 := (Oy uz _ f).1 hf;unfold Ed at hf2;rcases fe.1 hf2 with hf2 | hf2
 ·split at hf2
  ·cases hf2
  split at hf2
  ·exact g1.1 f hf2
  exact g1.1 f (ui.1 hf2).1
 split at hf2
 ·cases hf2
 exact g2.1 f hf2
theorem Ud {m : Ml} {q : Rq} {o : Oc} (h : jq m) : jq (pg m q o).2.1 := by
 unfold pg;split
 ·exact h
 rename_i i hf;obtain ⟨hl, -⟩ := Ow hf;rw [ay hl];dsimp only;have hb := h.boxes _ (bg hl);generalize hB : m.boxes[i] = b at *;split
 ·exact h
 rename_i h1;split
 ·exact h
 rename_i h2;split
 ·exact h
 split
 ·exact h
 rename_i h3 h4;have g1 : kr q.flags = true := by cases hh : kr q.flags with | false => exact absurd (.inl hh) h1 | true => rfl
 have g2 : 0 ≤ q.how := by have : ¬ q.how < 0 := fun hh => h1 (.inr (.inl hh)); omega
 have g3 : q.how ≤ 2 := by have : ¬ 2 < q.how := fun hh => h1 (.inr (.inr hh)); omega
 have hid : ∀ x, (Ba b.letters q b.high x).uid = x.uid := fun x => by unfold Ba; split <;> rfl
 refine h.qj hl _ (by rw [hB]) (by rw [hB]) ⟨hb.ok, hb.nm, hb.v1, hb.v2, hb.n1, hb.n2, E_ hb.h1, by show b.high + 1 ≤ _; omega, ?_, fun x hx => ?_, ?_⟩
 ·show (b.letters.map _).length ≤ 32;rw [az]; exact hb.len
 ·obtain ⟨z, hz, rfl⟩ := List.mem_map.1 hx;have hp := hb.lets z hz;unfold Ba;split
  ·rename_i ht;refine ⟨hp.u1, hp.u2, ?_, Nat.succ_pos _, ax _, hp.hs, hp.sz⟩;refine Vw hp.fl g1 g2 g3 ?_;unfold ut at ht;rw [qd] at ht;have hnf : qz b.letters q z = false := by
    cases hh : qz b.letters q z with
    | false => rfl
    | true => exact absurd (Gt.2 ⟨z, hz, hh⟩) h2
   unfold qz at hnf;rw [ht.1] at hnf;simpa using hnf
  exact hp.more (ax _) (Nat.le_succ _)
 show (b.letters.map _).Pairwise _;rw [List.pairwise_map];exact hb.up.imp (fun {x y} hxy => by rw [hid, hid]; exact hxy)
theorem Qv {m : Ml} {q : Rq} {o : Oc} (h : jq m) : jq (oh m q o).2.1 := by
 unfold oh;split
 ·exact h
 rename_i i hf;obtain ⟨hl, -⟩ := Ow hf;rw [ay hl];dsimp only;have hb := h.boxes _ (bg hl);generalize hB : m.boxes[i] = b at *;split
 ·exact h
 split
 ·exact h
 rename_i h3 h4;have hs : (b.letters.filter (fun x => !Ad b.letters q x)).Sublist b.letters := Df;exact h.qj hl _ (by rw [hB]) (by rw [hB]) ⟨hb.ok, hb.nm, hb.v1, hb.v2, hb.n1, hb.n2, E_ hb.h1, by show b.high + 1 ≤ _; omega, ed hs.length_le hb.len, fun x hx => (hb.lets x (hs.subset hx)).more (ax _) (Nat.le_succ _), hb.up.sublist hs⟩
theorem Iw (hh : Nat) : ∀ (l : List Lt) (n : Nat) (x : Lt), x ∈ Dj hh n l → ∃ z ∈ l, x = { z with uid := x.uid, mod := hh } ∧ n ≤ x.uid ∧ x.uid < n + l.length
 | [], n, x, hx => by cases hx
 | z :: r, n, x, hx => by
  rcases d_.1 hx with rfl | hx
  ·exact ⟨z, by simp, rfl, ax _, by simp⟩
  obtain ⟨y, hy, e, h1, h2⟩ := Iw hh r (n + 1) x hx;exact ⟨y, jh _ hy, e, by omega, by simp only [qc]; omega⟩
theorem Vs (hh : Nat) : ∀ (l : List Lt) (n : Nat), (Dj hh n l).Pairwise (fun x y => x.uid < y.uid)
 | [], n => tq
 | z :: r, n => jg.2 ⟨fun y hy => by obtain ⟨_, _, _, h1, _⟩ := Iw hh r (n + 1) y hy; exact h1, Vs hh r (n + 1)⟩
theorem Yf {m : Ml} {q : Rq} {o : Oc} (h : jq m) : jq (uw m q o).2.1 := by
 unfold uw;split
 ·exact h
 rename_i i hf;obtain ⟨hl, -⟩ := Ow hf;rw [ay hl];dsimp only;have hb := h.boxes _ (bg hl);generalize m.boxes[i] = b at hb;split
 ·exact h
 rename_i t ht;obtain ⟨htl, -, -⟩ := jm.1 ht;rw [ay htl];dsimp only;have hd := h.boxes _ (bg htl);generalize hD : m.boxes[t] = d at *;generalize hL : b.letters.filter (l_ b.letters q) = L;have hLs : ∀ x ∈ L, Py x b := fun x hx => hb.lets x (by rw [← hL] at hx; exact (ui.1 hx).1);split
 ·exact h
 split
 ·exact h
 split
 ·exact h
 rename_i h1 h2 h3;have g4 : ¬ 4294967296 < d.next + L.length := fun hh => h3 (.inl hh);have g5 : ¬ 9223372036854775807 ≤ d.high := fun hh => h3 (.inr hh);have hn1 := hd.n1;refine h.qj htl _ (by rw [hD]; rfl) (by rw [hD]; rfl) ⟨hd.ok, hd.nm, hd.v1, hd.v2, by show 1 ≤ d.next + _; omega, by show d.next + L.length ≤ _; omega, E_ hd.h1, by show d.high + 1 ≤ _; omega, ?_, fun x hx => ?_, ?_⟩
 ·show (d.letters ++ Dj (d.high + 1) d.next L).length ≤ 32;rw [bz, Iy]; omega
 ·rcases fe.1 hx with hx | hx
  ·exact (hd.lets x hx).more (Nat.le_add_right _ _) (Nat.le_succ _)
  obtain ⟨z, hz, e, h6, h7⟩ := Iw _ _ _ _ hx;have hp := hLs z hz;have e1 : x.flags = z.flags := by have h := jk Lt.flags e; exact h
  have e2 : x.hash = z.hash := by have h := jk Lt.hash e; exact h
  have e3 : x.size = z.size := by have h := jk Lt.size e; exact h
  have e4 : x.mod = d.high + 1 := by have h := jk Lt.mod e; exact h
  exact ⟨by omega, h7, by rw [e1]; exact hp.fl, by omega, by rw [e4]; exact ax _, by rw [e2]; exact hp.hs, by rw [e3]; exact hp.sz⟩
 show (d.letters ++ Dj (d.high + 1) d.next L).Pairwise _;refine j3.2 ⟨hd.up, Vs _ _ _, fun x hx y hy => ?_⟩;obtain ⟨_, _, _, h6, _⟩ := Iw _ _ _ _ hy;have := (hd.lets x hx).u2;omega
theorem Lp {l : List Hm} (h : l.Pairwise (fun x y => x.node < y.node)) {a b : Hm} (ha : a ∈ l) (hb : b ∈ l) (e : a.node = b.node) : a = b := by
 obtain ⟨i, hi, rfl⟩ := gu.1 ha;obtain ⟨j, hj, rfl⟩ := gu.1 hb;rcases La i j with h3 | h3 | h3
 ·have := gm.1 h i j hi hj h3; omega
 ·subst h3; rfl
 have := gm.1 h j i hj hi h3; omega
theorem Kg {m : Ml} (h : zm m) (q : Rq) (H : Hm) (hn : H.node = q.node) (l : List Hm) (hl : (um { m with homes := m.homes } (ry (fun x => x.node == q.node) m.homes) H).homes = l) (hH : Il H) :
  (∀ x ∈ l, Il x) ∧ l.Pairwise (fun x y => x.node < y.node) ∧ H ∈ l ∧ ∀ x ∈ m.homes, x.node ≠ q.node → x ∈ l := by
 subst hl;unfold um ry;cases hf : m.homes.findIdx? (fun x => x.node == q.node) with
 | none =>
  have hno : ∀ x ∈ m.homes, x.node ≠ q.node := fun x hx e => by
   have := l8.1 hf x hx;rw [e] at this; simp at this
  rw [bq (by show ¬ (0 : Int) ≤ -1; omega)];dsimp only;refine ⟨fun x hx => ?_, ?_, (xw Ja H H m.homes).2 (.inl rfl), fun x hx _ => (xw Ja H x m.homes).2 (.inr hx)⟩
  ·rcases (xw Ja H x m.homes).1 hx with rfl | hx
   ·exact hH
   exact h.homes x hx
  refine (Pb Ja H (fun x y z a b => ?_) m.homes (h.hup.imp (fun {x y} hxy => b_ hxy)) (fun x hx hlt => ?_)).imp (fun {x y} hxy => dm hxy)
  ·have h1 := dm a;have h2 := dm b;exact b_ (by omega)
  have h1 := f_ hlt;have h2 := hno x hx;exact b_ (by omega)
 | some i =>
  obtain ⟨hl, he, -⟩ := jm.1 hf;have he' : m.homes[i].node = q.node := eq_of_beq he;rw [dh (by show (0 : Int) ≤ (i : Int); omega)];dsimp only;rw [show (hf_ (some i)).toNat = i from rfl];refine ⟨fun x hx => ?_, ?_, Ug H hl, fun x hx hne => ?_⟩
  ·rcases H_ hx with hx | rfl
   ·exact h.homes x hx
   exact hH
  ·exact Xo h.hup hl H (fun x hx => by rw [hn, ← he']; exact hx) (fun x hx => by rw [hn, ← he']; exact hx)
  rcases Jm H hl hx with rfl | hx
  ·exact absurd he' hne
  exact hx
theorem Xx {m : Ml} (h : zm m) {x : Hm} (hx : x ∈ m.homes) : uj m x.node = x := by
 unfold uj;cases hf : m.homes.find? (fun y => y.node == x.node) with
 | none => exact absurd (uk.1 hf x hx) (by simp)
 | some y =>
  have h1 := Dv hf;exact Lp h.hup (rz hf) hx (eq_of_beq h1)
theorem Xt {m : Ml} {q : Rq} {o : Oc} (h : jq m) : jq (r_ m q o).2.1 := by
 unfold r_;split
 ·exact h
 rename_i h1;split
 ·exact h
 rename_i h2;split
 ·split
  ·exact h
  exact h
 rename_i h3;split
 ·exact h
 rename_i h4;have a1 : 1 ≤ q.node := by have : ¬ q.node < 1 := fun hh => h1 (.inl hh); omega
 have a2 : q.node ≤ 5 := by have : ¬ 5 < q.node := fun hh => h1 (.inr (.inl hh)); omega
 have a3 : q.life ≠ 0 := fun hh => h1 (.inr (.inr (.inl hh)));have a4 : q.ek ≠ 0 := fun hh => h1 (.inr (.inr (.inr hh)));have a5 : (xg m q).length < 16 := Nat.lt_of_not_le fun hh => h4 (.inl hh);have a6 : m.ns < 4611686018427387904 := Nat.lt_of_not_le fun hh => h4 (.inr hh);have hns := h.ns1;have hH : Il ⟨q.node, q.life, q.ek⟩ := ⟨a1, a2, a3, a4⟩;have hsub : (xg m q).Sublist m.seats := by
  unfold xg;split
  ·exact Df
  exact j4 _
 obtain ⟨b1, b2, b3, b4⟩ := Kg h.seated q ⟨q.node, q.life, q.ek⟩ rfl _ rfl hH;have hkeep : ∀ x ∈ xg m q, ∀ g ∈ m.homes, g.node = x.node → g.life = x.life → x.ek ≤ g.ek → g.node = q.node → g.life = q.life ∧ g.ek < q.ek := by
  intro x hx g hg e1 e2 e3 e4;have hg' : uj m q.node = g := by rw [← e4]; exact Xx h.seated hg
  rw [hg'] at h2 h3;have hnl : ¬ g.life < q.life := fun hh => by
   unfold xg at hx;rw [hg', dh hh] at hx;have := (ui.1 hx).2;rw [← e1, e4] at this;simp at this
  have he : g.life = q.life := by omega
  exact ⟨he, Nat.lt_of_not_le fun hh => h3 ⟨he, hh⟩⟩
 have hboxes : (um { m with seats := xg m q ++ [⟨m.ns, 0, q.node, q.life, q.ek⟩], ns := m.ns + 1 } (ry (fun x => x.node == q.node) m.homes) ⟨q.node, q.life, q.ek⟩) =
   { m with seats := xg m q ++ [⟨m.ns, 0, q.node, q.life, q.ek⟩], ns := m.ns + 1, homes := (um { m with homes := m.homes } (ry (fun x => x.node == q.node) m.homes) ⟨q.node, q.life, q.ek⟩).homes } := by
  unfold um;split <;> rfl
 dsimp only;rw [hboxes];generalize (um { m with homes := m.homes } (ry (fun x => x.node == q.node) m.homes) ⟨q.node, q.life, q.ek⟩).homes = L at b1 b2 b3 b4;exact {
  lb := h.lb
  nv := h.nv
  ns1 := by show 1 ≤ m.ns + 1; omega
  ns2 := by show m.ns + 1 ≤ _; omega
  sw := h.sw
  ls := by show (xg m q ++ [_]).length ≤ 16; rw [bz, bi]; omega
  boxes := h.boxes
  names := h.names
  vals := h.vals
  inbox := h.inbox
  seated := {
   homes := b1
   hup := b2
   seats := fun x hx => by
    rcases fe.1 hx with hx | hx
    ·have hp := h.seated.seats x (hsub.subset hx);obtain ⟨g, hg, e1, e2, e3⟩ := hp.home;refine ⟨hp.s1, by have := hp.s2; show x.session < m.ns + 1; omega, hp.t1, ?_⟩;by_cases hq : g.node = q.node
     ·have hk := hkeep x hx g hg e1 e2 e3 hq;exact ⟨_, b3, by show q.node = x.node; omega, by show q.life = x.life; omega, by show x.ek ≤ q.ek; omega⟩
     exact ⟨g, b4 g hg hq, e1, e2, e3⟩
    rw [dx.1 hx];exact ⟨hns, by show m.ns < m.ns + 1; omega, by show 1 ≤ q.ek; omega, _, b3, rfl, rfl, ax _⟩
   sup := j3.2 ⟨h.seated.sup.sublist hsub, by simp, fun x hx y hy => by
    rw [dx.1 hy];exact (h.seated.seats x (hsub.subset hx)).s2⟩
   twin := j3.2 ⟨h.seated.twin.sublist hsub, by simp, fun x hx y hy => by
    rw [dx.1 hy];rintro ⟨e, e'⟩;obtain ⟨g, hg, e1, e2, e3⟩ := (h.seated.seats x (hsub.subset hx)).home;have e0 : x.node = q.node := e;have e0' : x.ek = q.ek := e';have hk := hkeep x hx g hg e1 e2 e3 (by omega);omega⟩ } }
theorem Lf {m : Ml} (h : jq m) (i n : Nat) : jq (y7 m i n) := by
 have hg : ∀ (j : Nat) (hj : j < (m.seats.modify i (fun x => { x with last := n })).length) (hj' : j < m.seats.length), (m.seats.modify i (fun x => { x with last := n }))[j] = if i = j then { m.seats[j] with last := n } else m.seats[j] := fun j hj hj' => by
  rw [List.getElem_modify]
 have hk : ∀ (j : Nat) (hj : j < (m.seats.modify i (fun x => { x with last := n })).length) (hj' : j < m.seats.length), (m.seats.modify i (fun x => { x with last := n }))[j].session = m.seats[j].session ∧ (m.seats.modify i (fun x => { x with last := n }))[j].node = m.seats[j].node ∧ (m.seats.modify i (fun x => { x with last := n }))[j].life = m.seats[j].life ∧ (m.seats.modify i (fun x => { x with last := n }))[j].ek = m.seats[j].ek := fun j hj hj' => by
  rw [hg j hj hj'];split <;> exact ⟨rfl, rfl, rfl, rfl⟩
 have hlen : (m.seats.modify i (fun x => { x with last := n })).length = m.seats.length := List.length_modify ..;refine ⟨h.lb, h.nv, h.ns1, h.ns2, h.sw, by show (m.seats.modify i _).length ≤ 16; rw [hlen]; exact h.ls, h.boxes, h.names, h.vals, h.inbox, ⟨h.seated.homes, h.seated.hup, fun x hx => ?_, ?_, ?_⟩⟩
 ·obtain ⟨j, hj, rfl⟩ := gu.1 hx;have hj2 : j < (m.seats.modify i (fun x => { x with last := n })).length := hj;have hj' : j < m.seats.length := by rw [hlen] at hj2; exact hj2
  have hp := h.seated.seats _ (bg hj');obtain ⟨k1, k2, k3, k4⟩ := hk j hj2 hj';have hp2 := hp.home;refine ⟨?_, ?_, ?_, ?_⟩
  ·show 1 ≤ (m.seats.modify i _)[j].session; rw [k1]; exact hp.s1
  ·show (m.seats.modify i _)[j].session < m.ns; rw [k1]; exact hp.s2
  ·show 1 ≤ (m.seats.modify i _)[j].ek; rw [k4]; exact hp.t1
  obtain ⟨g, hg, e1, e2, e3⟩ := hp2;exact ⟨g, hg, e1.trans k2.symm, e2.trans k3.symm, by show (m.seats.modify i _)[j].ek ≤ g.ek; rw [k4]; exact e3⟩
 ·show (m.seats.modify i _).Pairwise _;rw [gm];intro a b ha hb hab;rw [(hk a ha (by rw [hlen] at ha; exact ha)).1, (hk b hb (by rw [hlen] at hb; exact hb)).1];exact gm.1 h.seated.sup a b _ _ hab
 show (m.seats.modify i _).Pairwise _;rw [gm];intro a b ha hb hab;have ka := hk a ha (by rw [hlen] at ha; exact ha);have kb := hk b hb (by rw [hlen] at hb; exact hb);rw [ka.2.1, kb.2.1, ka.2.2.2, kb.2.2.2];exact gm.1 h.seated.twin a b _ _ hab
theorem Zi (r : Int × Ml × Oc) : (mf r).1 = r.2.1 := by unfold mf; split <;> rfl
theorem Po {m : Ml} {q : Rq} (h : jq m) : jq (Bu m q).2.1 := by
 unfold Bu;split
 ·exact Xt h
 split
 ·exact bh_ h
 split
 ·exact Xu h
 split
 ·exact Tn h
 split
 ·exact Sv h
 split
 ·exact append_right h
 split
 ·exact Ud h
 split
 ·exact Qv h
 split
 ·exact Yf h
 exact Uc h
theorem Wm {m : Ml} (q : Rq) (h : jq m) : jq (lm m q).1 := by
 unfold lm;split
 ·exact h
 split
 ·rw [Zi]; exact Po h
 split
 ·exact h
 split
 ·exact h
 rw [Zi]; exact Po (Lf h _ _)
end
section
open Go.RowKit
attribute [local go_sem ↓] Go.wp_at_zero Go.wp_at_succ
def HUp (l : List Hm) (j : Nat) (nd : Int) : Prop := (∀ x ∈ l.take j, Il x) ∧ (l.take j).Pairwise (fun x y => x.node < y.node) ∧ (∀ x ∈ l.take j, x.node ≤ nd) ∧ 0 ≤ nd ∧ (nd = 0 ∨ ∃ (k : Nat) (h : k < l.length), k < j ∧ l[k].node = nd)
theorem HUp.step {l : List Hm} {j : Nat} {nd : Int} (h : HUp l j nd) (hj : j < l.length) (hp : Il l[j]) (hl : nd < l[j].node) : HUp l (j + 1) l[j].node := by
 unfold HUp;rw [ak hj];refine ⟨fun x hx => ?_, ?_, fun x hx => ?_, by have := h.2.2.2.1; omega, .inr ⟨j, hj, by omega, rfl⟩⟩
 ·rcases fe.1 hx with hx | hx
  ·exact h.1 x hx
  rw [dx.1 hx]; exact hp
 ·refine j3.2 ⟨h.2.1, by simp, fun x hx y hy => ?_⟩;rw [dx.1 hy];have := h.2.2.1 x hx;omega
 rcases fe.1 hx with hx | hx
 ·have := h.2.2.1 x hx; omega
 rw [dx.1 hx]; exact Int.le_refl _
theorem HUp.need {l : List Hm} {j : Nat} {nd : Int} (h : HUp l j nd) (hj : j < l.length) (h1 : ∀ x ∈ l, Il x) (h2 : l.Pairwise (fun x y => x.node < y.node)) : nd < l[j].node := by
 rcases h.2.2.2.2 with h3 | ⟨k, hk, hkj, h3⟩
 ·have := (h1 _ (bg hj)).n1; omega
 have := gm.1 h2 k j hk hj hkj; omega
def SUp (m : Ml) (l : List St) (j : Nat) (last : Nat) : Prop := (∀ x ∈ l.take j, Ng m x) ∧ (l.take j).Pairwise (fun x y => x.session < y.session) ∧ (l.take j).Pairwise (fun x y => ¬ (x.node = y.node ∧ x.ek = y.ek)) ∧ (∀ x ∈ l.take j, x.session ≤ last) ∧ (last = 0 ∨ ∃ (k : Nat) (h : k < l.length), k < j ∧ l[k].session = last)
theorem SUp.step {m : Ml} {l : List St} {j : Nat} {nd : Nat} (h : SUp m l j nd) (hj : j < l.length) (hp : Ng m l[j]) (hl : nd < l[j].session) (ht : ∀ k (hk : k < l.length), k < j → ¬ (l[k].node = l[j].node ∧ l[k].ek = l[j].ek)) : SUp m l (j + 1) l[j].session := by
 unfold SUp;rw [ak hj];refine ⟨fun x hx => ?_, ?_, ?_, fun x hx => ?_, .inr ⟨j, hj, by omega, rfl⟩⟩
 ·rcases fe.1 hx with hx | hx
  ·exact h.1 x hx
  rw [dx.1 hx]; exact hp
 ·refine j3.2 ⟨h.2.1, by simp, fun x hx y hy => ?_⟩;rw [dx.1 hy];have := h.2.2.2.1 x hx;omega
 ·refine j3.2 ⟨h.2.2.1, by simp, fun x hx y hy => ?_⟩;rw [dx.1 hy];obtain ⟨k, hk, rfl⟩ := gu.1 hx;rw [bf] at hk;rw [Ce];exact ht k (by omega) (by omega)
 rcases fe.1 hx with hx | hx
 ·have := h.2.2.2.1 x hx; omega
 rw [dx.1 hx]; exact ax _
theorem SUp.need {m : Ml} {l : List St} {j : Nat} {nd : Nat} (h : SUp m l j nd) (hj : j < l.length) (h1 : ∀ x ∈ l, Ng m x) (h2 : l.Pairwise (fun x y => x.session < y.session)) : nd < l[j].session := by
 rcases h.2.2.2.2 with h3 | ⟨k, hk, hkj, h3⟩
 ·have := (h1 _ (bg hj)).s1; omega
 have := gm.1 h2 k j hk hj hkj; omega
theorem ac_ {m : Ml} {x : St} (hup : m.homes.Pairwise (fun x y => x.node < y.node)) : (∃ h ∈ m.homes, h.node = x.node ∧ h.life = x.life ∧ x.ek ≤ h.ek) ↔ (m.homes.find? (fun h => h.node == x.node)).isSome = true ∧ ((m.homes.find? (fun h => h.node == x.node)).getD ⟨0, 0, 0⟩).life = x.life ∧ x.ek ≤ ((m.homes.find? (fun h => h.node == x.node)).getD ⟨0, 0, 0⟩).ek := by
 constructor
 ·rintro ⟨h, hm, h1, h2, h3⟩;cases hf : m.homes.find? (fun h => h.node == x.node) with
  | none =>
   have := uk.1 hf h hm;rw [h1] at this; simp at this
  | some g =>
   have hg := rz hf;have hgn : g.node = x.node := (by have := Dv hf; simpa using this);obtain ⟨i, hi, rfl⟩ := gu.1 hm;obtain ⟨j, hj, rfl⟩ := gu.1 hg;have : i = j := by
    rcases La i j with h4 | h4 | h4
    ·have := gm.1 hup i j hi hj h4; omega
    ·exact h4
    have := gm.1 hup j i hj hi h4; omega
   subst this;exact ⟨rfl, h2, h3⟩
 rintro ⟨h1, h2, h3⟩;cases hf : m.homes.find? (fun h => h.node == x.node) with
 | none => rw [hf] at h1; cases h1
 | some g =>
  rw [hf] at h2 h3;exact ⟨g, rz hf, by have := Dv hf; simpa using this, h2, h3⟩
set_option maxRecDepth 100000 in
set_option maxHeartbeats 16000000 in
theorem Ql {W : World} {m : Ml} (v : Value) (hin : pq W v m) (hlh : m.homes.length ≤ 1000) (hls : m.seats.length ≤ 1000) :
  Calls prog 74 #[v] W (Jh (zm m) W) := by
 obtain ⟨vb, vh, vs, bs, rfl, hbs, hib, hih, his⟩ := hin;obtain ⟨ab, cb, rfl, -⟩ := hib.1;have hih0 : Hid (∀ w', Below W.heap.size W w' → F_ w' vh m.homes) := hi_ (fun w' h => jf hih h);have his0 : Hid (∀ w', Below W.heap.size W w' → z_ w' vs m.seats) := hi_ (fun w' h => jf his h);obtain ⟨ah, ch, rfl, -⟩ := hih;obtain ⟨as_, cs, rfl, -⟩ := his;have hz1 := (ny W).dz [.slice ab bs.length cb, .int .u64 m.nv, .slice ah m.homes.length ch, .slice as_ m.seats.length cs, .int .u64 m.ns, .int .u64 m.a_].toArray 27;generalize hMB : W.heap.size = MB at hz1;generalize hWa : (W.alloc (.cells [.slice ab bs.length cb, .int .u64 m.nv, .slice ah m.homes.length ch, .slice as_ m.seats.length cs, .int .u64 m.ns, .int .u64 m.a_].toArray 27)) = Wa at hz1;replace hz1 := hi_ hz1;clear hib hbs;unfold yg;generalize hP : zm m = Pp;replace hP := hi_ hP;go_enter func74, ntmps74;go_wp2_with fail;clear hMB hWa;go_loopw [3, 4] (fun v3 v4 wr => ∃ (j : Nat) (nd : Int), v4 = .int .i64 j ∧ v3 = .int .i64 nd ∧ j ≤ m.homes.length ∧ Hid (HUp m.homes j nd) ∧ wr = Wa) (fun _ v4 _ => m.homes.length - (intOf v4).toNat);case atStart => exact ⟨0, 0, rfl, rfl, dw _, hi_ ⟨fun x hx => by simp at hx, by simp, fun x hx => by simp at hx, by omega, .inl rfl⟩, rfl⟩
 case round =>
  obtain ⟨j, nd, rfl, rfl, hj, hup, rfl⟩ := hrel;obtain ⟨hbM, -⟩ := hz1.out.box 0 rfl;have x2 : wr.cell? ⟨MB, 2, none⟩ = some (.slice ah m.homes.length ch) := bc_ hbM 2;have x3 : wr.cell? ⟨MB, 3, none⟩ = some (.slice as_ m.seats.length cs) := bc_ hbM 3;clear hbM;by_cases hlt : j < m.homes.length
  ·have hin := hih0.out wr hz1.out.bel;obtain ⟨b, bo, cap, hv, -, hblt, hcells⟩ := hmT.ow hin hlt;injection hv with hv1 hv2 hv3;subst hv1 hv3;have hneed : zm m → Il m.homes[j] ∧ nd < m.homes[j].node := fun h => ⟨h.homes _ (bg hlt), hup.out.need hlt h.homes h.hup⟩;have hstep : Il m.homes[j] → nd < m.homes[j].node → HUp m.homes (j + 1) m.homes[j].node := fun h1 h2 => hup.out.step hlt h1 h2;have hnd0 := hup.out.2.2.2.1;obtain ⟨x, hx⟩ : ∃ x, m.homes[j] = x := ⟨_, rfl⟩;rw [hx] at hcells hneed hstep;have r0 : wr.cell? ⟨b, bo + (j * 3 + 0), none⟩ = some (.int .i64 x.node) := hcells 0 _ rfl;have r1 : wr.cell? ⟨b, bo + (j * 3 + 1), none⟩ = some (.int .u64 x.life) := hcells 1 _ rfl;have r2 : wr.cell? ⟨b, bo + (j * 3 + 2), none⟩ = some (.int .u64 x.ek) := hcells 2 _ rfl;rw [← qa] at r0 r1 r2;rw [Cz] at r0;have hj0 : (0 : Int) ≤ (j : Int) := (by omega);have hj1 : (j : Int) < (m.homes.length : Int) := (by omega);replace hneed := hi_ hneed;replace hstep := hi_ hstep;clear hcells hin hx hup;go_upto_region 5 with fail;go_cut [52] (fun v52 wx => v52 = .bool ((decide (x.node ≤ nd)) || (decide (5 < x.node)) || (((x.life : Int) == 0)) || (((x.ek : Int) == 0))) ∧ wx = wr);case first =>
    cases l1 : decide (x.node ≤ nd) with
    | true =>
     have l1' := dm l1;replace l1 := hi_ l1;go_wp2_with fail;go_meet;case rel => exact ⟨by simp only [l1.out, ic, iw, ig, je], rfl⟩
    | false =>
     cases l2 : decide (5 < x.node) with
     | true =>
      have l2' := dm l2;replace l2 := hi_ l2;go_wp2_with fail;go_meet;case rel => exact ⟨by simp only [l1, l2.out, ic, iw, ig, je], rfl⟩
     | false =>
      cases l3 : ((x.life : Int) == 0) with
      | true =>
       go_wp2_with fail;go_meet;case rel => exact ⟨by simp only [l1, l2, l3, ic, iw, ig, je], rfl⟩
      | false =>
       cases l4 : ((x.ek : Int) == 0) with
       | true =>
        go_wp2_with fail;go_meet;case rel => exact ⟨by simp only [l1, l2, l3, l4, ic, iw, ig, je], rfl⟩
       | false =>
        go_wp2_with fail;go_meet;case rel => exact ⟨by simp only [l1, l2, l3, l4, ic, iw, ig, je], rfl⟩
   case rest =>
   obtain ⟨rfl, rfl⟩ := hcut;obtain ⟨B, hB⟩ : ∃ B, ((decide (x.node ≤ nd)) || (decide (5 < x.node)) || (((x.life : Int) == 0)) || (((x.ek : Int) == 0))) = B := ⟨_, rfl⟩;rw [hB];cases B with
   | true =>
    have hno : Hid (false = true ↔ Pp) := hi_ (by
     rw [← hP.out];refine Ai (fun h => by cases h) (fun h => ?_);obtain ⟨h1, h2⟩ := hneed.out h;have l1 : decide (x.node ≤ nd) = false := aj (by omega);have l2 : decide (5 < x.node) = false := aj (by have := h1.n2; omega);have l3 : ((x.life : Int) == 0) = false := cz.2 (by have := h1.l; omega);have l4 : ((x.ek : Int) == 0) = false := cz.2 (by have := h1.t; omega);rw [l1, l2, l3, l4] at hB;exact absurd hB (by simp))
    have hbF := hi_ hz1.out.bel;clear hB hneed hstep hz1;go_wp2_with fail;go_ret;exact ⟨false, rfl, hno, hbF⟩
   | false =>
    simp only [Cs] at hB;obtain ⟨⟨⟨l1, l2⟩, l3⟩, l4⟩ := hB;have hlp : Il x ∧ nd < x.node := by
     have l1' := f_ l1;have l2' := f_ l2;have l3' := cz.1 l3;have l4' := cz.1 l4;exact ⟨⟨by omega, by omega, by omega, by omega⟩, by omega⟩
    have hup2 := hi_ (hstep.out hlp.1 hlp.2);clear l1 l2 l3 l4 hlp hstep hneed;go_wp2_with fail;go_roundw;case rel => exact ⟨j + 1, x.node, by go_num, rfl, by omega, hup2, trivial⟩
    case measure => simp [intOf] <;> omega
  have hj1 : (m.homes.length : Int) ≤ (j : Int) := by omega
  have hj2 : ¬ ((j : Int) < (m.homes.length : Int)) := by omega
  have hhP : Hid ((∀ x ∈ m.homes, Il x) ∧ m.homes.Pairwise (fun x y => x.node < y.node)) := hi_ (by
   have h1 := hup.out;unfold HUp at h1;rw [show j = m.homes.length from by omega, gp] at h1;exact ⟨h1.1, h1.2.1⟩)
  clear hup;go_wp2_with fail;clear x2 x3;go_loopw [5, 6] (fun v5 v6 wr => ∃ i last : Nat, v6 = .int .i64 i ∧ v5 = .int .u64 last ∧ i ≤ m.seats.length ∧ Hid (SUp m m.seats i last) ∧ Hid (Zoo W wr [df MB [.slice ab bs.length cb, .int .u64 m.nv, .slice ah m.homes.length ch, .slice as_ m.seats.length cs, .int .u64 m.ns, .int .u64 m.a_].toArray 27])) (fun _ v6 _ => m.seats.length - (intOf v6).toNat);case atStart => exact ⟨0, 0, rfl, rfl, dw _, hi_ ⟨fun x hx => by simp at hx, by simp, by simp, fun x hx => by simp at hx, .inl rfl⟩, hz1⟩
  case round =>
   clear hz1 hj1 hj2 hlt hj;obtain ⟨i, last, rfl, rfl, hi, hup, hz⟩ := hrel;generalize wr = wo at *;obtain ⟨hbM, -⟩ := hz.out.box 0 rfl;obtain ⟨x0, x1, x2, x3, x4, x5⟩ := bx6 hbM;by_cases hlt : i < m.seats.length
   ·have hin := his0.out wo hz.out.bel;obtain ⟨b, bo, cap, hv, -, hblt, hcells⟩ := stT.ow hin hlt;injection hv with hv1 hv2 hv3;subst hv1 hv3;have hneed : zm m → Ng m m.seats[i] ∧ last < m.seats[i].session := fun h => ⟨h.seats _ (bg hlt), hup.out.need hlt h.seats h.sup⟩;have hstep : Ng m m.seats[i] → last < m.seats[i].session → (∀ k (hk : k < m.seats.length), k < i → ¬ (m.seats[k].node = m.seats[i].node ∧ m.seats[k].ek = m.seats[i].ek)) → SUp m m.seats (i + 1) m.seats[i].session := fun h1 h2 h3 => hup.out.step hlt h1 h2 h3;have htwin : zm m → ∀ k (hk : k < m.seats.length), k < i → ¬ (m.seats[k].node = m.seats[i].node ∧ m.seats[k].ek = m.seats[i].ek) := fun h k hk hki => gm.1 h.twin k i hk hlt hki;obtain ⟨x, hx⟩ : ∃ x, m.seats[i] = x := ⟨_, rfl⟩;rw [hx] at hcells hneed hstep htwin;have r0 : wo.cell? ⟨b, bo + (i * 5 + 0), none⟩ = some (.int .u64 x.session) := hcells 0 _ rfl;have r1 : wo.cell? ⟨b, bo + (i * 5 + 1), none⟩ = some (.int .u64 x.last) := hcells 1 _ rfl;have r2 : wo.cell? ⟨b, bo + (i * 5 + 2), none⟩ = some (.int .i64 x.node) := hcells 2 _ rfl;have r3 : wo.cell? ⟨b, bo + (i * 5 + 3), none⟩ = some (.int .u64 x.life) := hcells 3 _ rfl;have r4 : wo.cell? ⟨b, bo + (i * 5 + 4), none⟩ = some (.int .u64 x.ek) := hcells 4 _ rfl;rw [← qa] at r0 r1 r2 r3 r4;rw [Cz] at r0;have hi0 : (0 : Int) ≤ (i : Int) := (by omega);have hi1 : (i : Int) < (m.seats.length : Int) := (by omega);have hzS := hz.out.dz [.int .u64 x.session, .int .u64 x.last, .int .i64 x.node, .int .u64 x.life, .int .u64 x.ek].toArray 69;replace hneed := hi_ hneed;replace hstep := hi_ hstep;replace htwin := hi_ htwin;generalize hSB : wo.heap.size = SB at hzS;generalize hWs : (wo.alloc (.cells [.int .u64 x.session, .int .u64 x.last, .int .i64 x.node, .int .u64 x.life, .int .u64 x.ek].toArray 69)) = ws at hzS;have hhome : Hid (Calls prog 100 #[.agg #[.slice ab bs.length cb, .int .u64 m.nv, .slice ah m.homes.length ch, .slice (some ⟨b, bo, none⟩) m.seats.length cs, .int .u64 m.ns, .int .u64 m.a_], .int .i64 x.node] ws (Zo ws m.homes x.node)) := hi_ (Ms ab ah (some ⟨b, bo, none⟩) bs.length cb ch m.seats.length cs m.nv m.ns m.a_ m.homes x.node (hih0.out ws hzS.bel) (by omega));clear x0 x1 x2 x4 x5 hbM;obtain ⟨hbM, -⟩ := hzS.box 1 rfl;obtain ⟨x0, x1, x2, x3, x4, x5⟩ := bx6 hbM;obtain ⟨hbS, -⟩ := hzS.box 0 rfl;obtain ⟨y0, y1, y2, y3, y4⟩ := bx5 hbS;replace hzS := hi_ hzS;clear hcells hin hx hup hz hbM hbS;go_wp2_with fail;refine hhome.out.mono ?_;rintro e w5 ⟨rfl, hb5⟩;clear hhome r0 r1 r2 r3 r4 x0 x1 x2 x3 x4 x5 y0 y1 y2 y3 y4 hSB hWs;obtain ⟨h, hh⟩ : ∃ h, (m.homes.find? (fun h => h.node == x.node)).getD ⟨0, 0, 0⟩ = h := ⟨_, rfl⟩;obtain ⟨ok, hok⟩ : ∃ ok, (m.homes.find? (fun h => h.node == x.node)).isSome = ok := ⟨_, rfl⟩;rw [hh, hok];have hsp : Hid (Ng m x ↔ (1 ≤ x.session ∧ x.session < m.ns ∧ 1 ≤ x.ek) ∧ ok = true ∧ h.life = x.life ∧ x.ek ≤ h.ek) := hi_ (by
     have h1 := ac_ (x := x) hhP.out.2;rw [hh, hok] at h1;constructor
     ·intro g; exact ⟨⟨g.s1, g.s2, g.t1⟩, h1.1 g.home⟩
     intro g; exact ⟨g.1.1, g.1.2.1, g.1.2.2, h1.2 g.2⟩)
    clear hh hok;have hz6 := (hzS.out.below hb5.out).dz [.int .i64 h.node, .int .u64 h.life, .int .u64 h.ek].toArray 67;generalize hHB : w5.heap.size = HB at hz6;generalize hWh : (w5.alloc (.cells [.int .i64 h.node, .int .u64 h.life, .int .u64 h.ek].toArray 67)) = wh at hz6;unfold y8;obtain ⟨hbM, -⟩ := hz6.box 2 rfl;obtain ⟨x0, x1, x2, x3, x4, x5⟩ := bx6 hbM;obtain ⟨hbS, -⟩ := hz6.box 1 rfl;obtain ⟨y0, y1, y2, y3, y4⟩ := bx5 hbS;obtain ⟨hbH, -⟩ := hz6.box 0 rfl;have h0 : wh.cell? ⟨HB, 0, none⟩ = some (.int .i64 h.node) := bc_ hbH 0;have h1 : wh.cell? ⟨HB, 1, none⟩ = some (.int .u64 h.life) := bc_ hbH 1;have h2 : wh.cell? ⟨HB, 2, none⟩ = some (.int .u64 h.ek) := bc_ hbH 2;replace hz6 := hi_ hz6;clear hbM hbS hbH hzS hb5;go_upto_region 14 with fail;go_cut [111] (fun v111 wx => v111 = .bool ((decide ((x.session : Int) ≤ (last : Int))) || (decide ((m.ns : Int) ≤ (x.session : Int))) || (!ok) || (((h.life : Int) != (x.life : Int))) || (((x.ek : Int) == 0)) || (decide ((h.ek : Int) < (x.ek : Int)))) ∧ wx = wh);case first =>
     cases l1 : decide ((x.session : Int) ≤ (last : Int)) with
     | true =>
      have l1' := dm l1;replace l1 := hi_ l1;go_wp2_with fail;go_meet;case rel => exact ⟨by simp only [l1.out, ic, iw, ig, je], rfl⟩
     | false =>
      have l1'' : decide (x.session ≤ last) = false := aj (by have h := f_ l1; omega);cases l2 : decide ((m.ns : Int) ≤ (x.session : Int)) with
      | true =>
       have l2' := dm l2;replace l2 := hi_ l2;go_wp2_with fail;go_meet;case rel => exact ⟨by simp only [l1, l2.out, ic, iw, ig, je], rfl⟩
      | false =>
       have l2'' : decide (m.ns ≤ x.session) = false := aj (by have h := f_ l2; omega);cases l3 : !ok with
       | true =>
        go_wp2_with fail;go_meet;case rel => exact ⟨by simp only [l1, l2, l3, ic, iw, ig, je], rfl⟩
       | false =>
        cases l4 : ((h.life : Int) != (x.life : Int)) with
        | true =>
         have l4' : ((h.life : Int) == (x.life : Int)) = false := (by simpa [bne] using l4);go_wp2_with fail;go_meet;case rel => exact ⟨by simp only [l1, l2, l3, l4, ic, iw, ig, je], rfl⟩
        | false =>
         have l4' : ((h.life : Int) == (x.life : Int)) = true := (by simpa [bne] using l4);cases l5 : ((x.ek : Int) == 0) with
         | true =>
          go_wp2_with fail;go_meet;case rel => exact ⟨by simp only [l1, l2, l3, l4, l5, ic, iw, ig, je], rfl⟩
         | false =>
          cases l6 : decide ((h.ek : Int) < (x.ek : Int)) with
          | true =>
           have l6' := dm l6;replace l6 := hi_ l6;go_wp2_with fail;go_meet;case rel => exact ⟨by simp only [l1, l2, l3, l4, l5, l6.out, ic, iw, ig, je], rfl⟩
          | false =>
           have l6'' : decide (h.ek < x.ek) = false := aj (by have h := f_ l6; omega);go_wp2_with fail;go_meet;case rel => exact ⟨by simp only [l1, l2, l3, l4, l5, l6, ic, iw, ig, je], rfl⟩
    case rest =>
    obtain ⟨rfl, rfl⟩ := hcut;obtain ⟨B, hB⟩ : ∃ B, ((decide ((x.session : Int) ≤ (last : Int))) || (decide ((m.ns : Int) ≤ (x.session : Int))) || (!ok) || (((h.life : Int) != (x.life : Int))) || (((x.ek : Int) == 0)) || (decide ((h.ek : Int) < (x.ek : Int)))) = B := ⟨_, rfl⟩;rw [hB];clear x0 x1 x2 x3 x4 x5 y0 y1 y2 y3 y4 h0 h1 h2 hHB hWh;cases B with
    | true =>
     have hno : Hid (false = true ↔ Pp) := hi_ (by
      rw [← hP.out];refine Ai (fun h => by cases h) (fun hs => ?_);obtain ⟨g1, g2⟩ := hneed.out hs;obtain ⟨⟨g3, g4, g5⟩, g6, g7, g8⟩ := hsp.out.1 g1;have l1 : decide ((x.session : Int) ≤ (last : Int)) = false := aj (by omega);have l2 : decide ((m.ns : Int) ≤ (x.session : Int)) = false := aj (by omega);have l3 : (!ok) = false := (by rw [g6]; rfl);have l4 : ((h.life : Int) != (x.life : Int)) = false := (by rw [g7]; simp);have l5 : ((x.ek : Int) == 0) = false := cz.2 (by omega);have l6 : decide ((h.ek : Int) < (x.ek : Int)) = false := aj (by omega);rw [l1, l2, l3, l4, l5, l6] at hB;exact absurd hB (by simp))
     have hbF := hi_ hz6.out.bel;clear hB hneed hstep htwin hz6 hsp;go_wp2_with fail;go_ret;exact ⟨false, rfl, hno, hbF⟩
    | false =>
     simp only [Cs] at hB;obtain ⟨⟨⟨⟨⟨l1, l2⟩, l3⟩, l4⟩, l5⟩, l6⟩ := hB;have hlp : Ng m x ∧ last < x.session := by
      have l1' := f_ l1;have l2' := f_ l2;have l5' := cz.1 l5;have l6' := f_ l6;have l4' : h.life = x.life := by
       have : (h.life : Int) = (x.life : Int) := (by simpa [bne] using l4);omega
      exact ⟨hsp.out.2 ⟨⟨by omega, by omega, by omega⟩, by simpa using l3, l4', by omega⟩, by omega⟩
     have hup2 := hi_ (hstep.out hlp.1 hlp.2);obtain ⟨hbS, -⟩ := hz6.out.box 1 rfl;have y0 : wc.cell? ⟨SB, 0, none⟩ = some (.int .u64 x.session) := bc_ hbS 0;clear l1 l2 l3 l4 l5 l6 hlp hstep hneed hsp hbS;go_wp2_with fail;clear y0;generalize wc = wq at *;go_loopw [10] (fun v10 wr => ∃ k : Nat, v10 = .int .i64 k ∧ k ≤ i ∧ Hid (∀ k' (h : k' < m.seats.length), k' < k → ¬ (m.seats[k'].node = x.node ∧ m.seats[k'].ek = x.ek)) ∧ Hid (Zoo W wr [df HB [.int .i64 h.node, .int .u64 h.life, .int .u64 h.ek].toArray 67, df SB [.int .u64 x.session, .int .u64 x.last, .int .i64 x.node, .int .u64 x.life, .int .u64 x.ek].toArray 69, df MB [.slice ab bs.length cb, .int .u64 m.nv, .slice ah m.homes.length ch, .slice (some ⟨b, bo, none⟩) m.seats.length cs, .int .u64 m.ns, .int .u64 m.a_].toArray 27])) (fun v10 _ => i - (intOf v10).toNat);case atStart => exact ⟨0, rfl, dw _, hi_ (fun k' h hk => by omega), hz6⟩
     case round =>
      clear hz6;obtain ⟨k, rfl, hk, hno, hz⟩ := hrel;by_cases hki : k < i
      ·have hkl : k < m.seats.length := (by omega);obtain ⟨b2, bo2, cap2, hv, -, hb2, hcells⟩ := stT.ow (his0.out wr hz.out.bel) hkl;injection hv with hv1 hv2 hv3;injection hv1 with hv1;injection hv1 with hv1 hv1b;subst hv1 hv1b;obtain ⟨z, hzz⟩ : ∃ z, m.seats[k] = z := ⟨_, rfl⟩;rw [hzz] at hcells;have r2 : wr.cell? ⟨b, bo + (k * 5 + 2), none⟩ = some (.int .i64 z.node) := hcells 2 _ rfl;have r4 : wr.cell? ⟨b, bo + (k * 5 + 4), none⟩ = some (.int .u64 z.ek) := hcells 4 _ rfl;rw [← qa] at r2 r4;obtain ⟨hbS, -⟩ := hz.out.box 1 rfl;obtain ⟨hbM, -⟩ := hz.out.box 2 rfl;have y2 : wr.cell? ⟨SB, 2, none⟩ = some (.int .i64 x.node) := bc_ hbS 2;have y4 : wr.cell? ⟨SB, 4, none⟩ = some (.int .u64 x.ek) := bc_ hbS 4;have x3 : wr.cell? ⟨MB, 3, none⟩ = some (.slice (some ⟨b, bo, none⟩) m.seats.length cs) := bc_ hbM 3;have hk0 : (0 : Int) ≤ (k : Int) := (by omega);have hk1 : (k : Int) < (i : Int) := (by omega);have hk2 : (k : Int) < (m.seats.length : Int) := (by omega);have hno2 : Hid (¬ (z.node = x.node ∧ z.ek = x.ek) → ∀ k' (h : k' < m.seats.length), k' < k + 1 → ¬ (m.seats[k'].node = x.node ∧ m.seats[k'].ek = x.ek)) := hi_ (fun h k' hk' hkk => by
        by_cases e : k' = k
        ·subst e; rw [hzz]; exact h
        exact hno.out k' hk' (by omega))
       have hbad : Hid (z.node = x.node ∧ z.ek = x.ek → ¬ Pp) := hi_ (fun h hp => by
        rw [← hP.out] at hp;have := htwin.out hp k hkl hki;rw [hzz] at this;exact this h)
       clear hcells hbS hbM hzz hno hv2 hv3;cases c1 : (z.node == x.node) with
       | false =>
        have hn := hi_ (hno2.out (fun h => by rw [h.1, beq_self_eq_true] at c1; cases c1));clear hno2 hbad;go_wp2_with fail;go_quiet (fail);go_wp2_with fail;go_roundw;case rel => exact ⟨k + 1, by go_num, by omega, hn, hi_ (hz.out.below (qw (ae _ _) nq))⟩
        case measure => simp [intOf] <;> omega
       | true =>
        cases c2 : ((z.ek : Int) == (x.ek : Int)) with
        | false =>
         have hn := hi_ (hno2.out (fun h => by rw [h.2, beq_self_eq_true] at c2; cases c2));clear hno2 hbad;go_wp2_with fail;go_quiet (fail);go_wp2_with fail;go_roundw;case rel => exact ⟨k + 1, by go_num, by omega, hn, hi_ (hz.out.below (qw (ae _ _) nq))⟩
         case measure => simp [intOf] <;> omega
        | true =>
         have hn := hi_ (hbad.out ⟨eq_of_beq c1, by have := eq_of_beq c2; omega⟩);have hbF := hz.out.bel;clear hno2 hbad;go_wp2_with fail;go_quiet (fail);go_wp2_with fail;go_ret;exact ⟨false, rfl, hi_ (Ai (fun h => by cases h) (fun h => absurd h hn.out)), hi_ (qw hbF nq)⟩
      have hk1 : (i : Int) ≤ (k : Int) := (by omega);have hk2 : ¬ ((k : Int) < (i : Int)) := (by omega);have hup3 := hi_ (hup2.out (fun k' hk' hki' => hno.out k' hk' (by omega)));have hzT := hi_ hz.out.tail.tail;clear hup2 hno hz htwin;go_wp2_with fail;go_roundw;case rel => exact ⟨i + 1, x.session, by go_num, rfl, by omega, hup3, hzT⟩
      case measure => simp [intOf] <;> omega
   have hj1 : (m.seats.length : Int) ≤ (i : Int) := (by omega);have hj2 : ¬ ((i : Int) < (m.seats.length : Int)) := (by omega);have hyes : Hid Pp := hi_ (by
    rw [← hP.out];have h1 := hup.out;unfold SUp at h1;rw [show i = m.seats.length from by omega, gp] at h1;exact ⟨hhP.out.1, hhP.out.2, h1.1, h1.2.1, h1.2.2.1⟩)
   have hbF := hi_ hz.out.bel;clear hup hz hbM;go_wp2_with fail;go_ret;exact ⟨true, rfl, hi_ (Ai (fun _ => hyes.out) (fun _ => rfl)), hbF⟩
end
end Go.Proofs.YtdobbfjmlnlieaaGreat
