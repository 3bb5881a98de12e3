/- NetCuts: plain laws. -/
import Derived.Test.YtjopbglimjhefaaNeV
namespace Go.Proofs.Ytjopbglimjhefaa
open Go.RowKit Go.Maps Go.WideMaps

def Mild (k : Int) : Prop := k < 2 ∨ k = 3 ∨ k = 5
structure Twin (s s' : Ns) : Prop where
  l : s.l.Perm s'.l
  now : s.now = s'.now
  last : s.last = s'.last
theorem nodup_same {l : List Pk} (h : (l.map Pk.id).Nodup) {p q : Pk} (hp : p ∈ l) (hq : q ∈ l) (e : p.id = q.id) : p = q := by
  obtain ⟨i, hi, rfl⟩ := List.mem_iff_getElem.1 hp
  obtain ⟨j, hj, rfl⟩ := List.mem_iff_getElem.1 hq
  have := (List.getElem_inj (i := i) (j := j) (h₀ := by simpa using hi) (h₁ := by simpa using hj) h).1 (by simpa using e)
  subst this; rfl
theorem perm_cons_same {l : List Pk} (h : (l.map Pk.id).Nodup) {p q : Pk} {l1 l2 : List Pk} (h1 : (p :: l1).Perm l) (h2 : (q :: l2).Perm l) (e : p.id = q.id) : p = q ∧ l1.Perm l2 := by
  obtain rfl := nodup_same h (h1.mem_iff.1 (by simp)) (h2.mem_iff.1 (by simp)) e
  exact ⟨rfl, (List.perm_cons p).1 (h1.trans h2.symm)⟩
theorem Twin.act {s s' s1 s1' : Ns} {a : ActD} {sn cm sn' cm' : List Pk} (h : Twin s s') (hn : (s.l.map Pk.id).Nodup) (hm : Mild a.kind) (h1 : ActR s a s1 sn cm) (h2 : ActR s' a s1' sn' cm') : Twin s1 s1' ∧ s1.C = s.C ∧ s1'.C = s'.C := by
  have hlen := h.l.length_eq
  unfold Mild at hm
  rcases h1 with ⟨k1, rfl, _⟩ | ⟨k1, rfl, _⟩ | ⟨k1, _⟩ | ⟨k1, ⟨x, hx⟩, _⟩ | ⟨k1, ⟨x, hx⟩, _⟩ | ⟨k1, _⟩ | ⟨k1, rfl, _⟩ <;>
  rcases h2 with ⟨k2, rfl, _⟩ | ⟨k2, rfl, _⟩ | ⟨k2, _⟩ | ⟨k2, ⟨y, hy⟩, _⟩ | ⟨k2, ⟨y, hy⟩, _⟩ | ⟨k2, _⟩ | ⟨k2, rfl, _⟩ <;> try omega
  · exact ⟨⟨h.l, by show s.now + 1 = s'.now + 1; rw [h.now], h.last⟩, rfl, rfl⟩
  · unfold sendS
    split
    · by_cases hl : s.l.length < 512
      · rw [if_pos hl, if_pos (by omega)]
        refine ⟨⟨?_, h.now, by show s.last + 1 = s'.last + 1; rw [h.last]⟩, rfl, rfl⟩
        show (_ :: s.l).Perm (_ :: s'.l)
        rw [h.now, h.last]
        exact h.l.cons _
      · rw [if_neg hl, if_neg (by omega)]
        exact ⟨h, rfl, rfl⟩
    · exact ⟨h, rfl, rfl⟩
  · rcases hx with ⟨g1, _, rfl⟩ | ⟨p, l2, g1, g2, _, rfl⟩ <;> rcases hy with ⟨g3, _, rfl⟩ | ⟨q, l3, g3, g4, _, rfl⟩
    · exact ⟨h, rfl, rfl⟩
    · exact absurd g3 (g1 q (h.l.mem_iff.2 (g4.mem_iff.1 (by simp))))
    · exact absurd g1 (g3 p (h.l.mem_iff.1 (g2.mem_iff.1 (by simp))))
    · exact ⟨⟨(perm_cons_same hn g2 (g4.trans h.l.symm) (by rw [g1, g3])).2, h.now, h.last⟩, rfl, rfl⟩
  · rcases hx with ⟨g1, _, rfl⟩ | ⟨⟨p, gp, g1⟩, gd, _, rfl⟩ | ⟨gd, p, l2, g1, g2, _, rfl⟩ <;> rcases hy with ⟨g3, _, rfl⟩ | ⟨⟨q, gq, g3⟩, gd', _, rfl⟩ | ⟨gd', q, l3, g3, g4, _, rfl⟩
    · exact ⟨h, rfl, rfl⟩
    · exact absurd g3 (g1 q (h.l.mem_iff.2 gq))
    · exact absurd g3 (g1 q (h.l.mem_iff.2 (g4.mem_iff.1 (by simp))))
    · exact absurd g1 (g3 p (h.l.mem_iff.1 gp))
    · exact ⟨h, rfl, rfl⟩
    · exact absurd gd' gd
    · exact absurd g1 (g3 p (h.l.mem_iff.1 (g2.mem_iff.1 (by simp))))
    · exact absurd gd gd'
    · obtain ⟨rfl, hp⟩ := perm_cons_same hn g2 (g4.trans h.l.symm) (by rw [g1, g3])
      refine ⟨⟨?_, h.now, h.last⟩, rfl, rfl⟩
      show (_ :: l2).Perm (_ :: l3)
      rw [h.now]
      exact hp.cons _
  · exact ⟨h, rfl, rfl⟩
theorem RunR.once' {acts : List ActD} {s0 s : Ns} {sn cm : List Pk} (h : RunR s0 acts s sn cm) (h0 : OnceI s0 [] []) : OnceI s sn cm := by
  induction h with
  | nil => exact h0
  | snoc _ h2 ih => exact h2.once ih
theorem RunR.inv {acts : List ActD} {s0 s : Ns} {sn cm : List Pk} (h : RunR s0 acts s sn cm) : (acts = [] ∧ s = s0 ∧ sn = [] ∧ cm = []) ∨ ∃ acts1 a s1 sn1 cm1 sn2 cm2, acts = acts1 ++ [a] ∧ RunR s0 acts1 s1 sn1 cm1 ∧ ActR s1 a s sn2 cm2 := by
  cases h with
  | nil => exact .inl ⟨rfl, rfl, rfl, rfl⟩
  | snoc h1 h2 => exact .inr ⟨_, _, _, _, _, _, _, rfl, h1, h2⟩
theorem Twin.run {s0 s0' : Ns} (h0 : Twin s0 s0') (ho : OnceI s0 [] []) {acts : List ActD} {s s' : Ns} {sn cm sn' cm' : List Pk} (h1 : RunR s0 acts s sn cm) (h2 : RunR s0' acts s' sn' cm') (hm : ∀ a ∈ acts, Mild a.kind) : Twin s s' ∧ s.C = s0.C ∧ s'.C = s0'.C := by
  induction h1 generalizing s' sn' cm' with
  | nil =>
    rcases h2.inv with ⟨_, rfl, _⟩ | ⟨_, _, _, _, _, _, _, e, _⟩
    · exact ⟨h0, rfl, rfl⟩
    · simp at e
  | snoc g1 g2 ih =>
    rcases h2.inv with ⟨e, _⟩ | ⟨acts1, a1, s1', _, _, _, _, e, g3, g4⟩
    · simp at e
    · obtain ⟨rfl, e2⟩ := List.append_inj' e rfl
      obtain rfl := by simpa using e2
      obtain ⟨i1, i2, i3⟩ := ih g3 (fun a ha => hm a (by simp [ha]))
      have hn : ((_ : Ns).l.map Pk.id).Nodup := ((g1.once' ho).once.sub (List.sublist_append_right _ _)).1
      obtain ⟨j1, j2, j3⟩ := i1.act hn (hm _ (by simp)) g2 g4
      exact ⟨j1, j2.trans i2, j3.trans i3⟩
def live (C : Int → Int → Bool) (q : Pk) : Bool := !C (lo q.src q.dst) (hi q.src q.dst)
theorem leP.same {p q : Pk} (h1 : leP p q) (h2 : leP q p) : p.id = q.id := by unfold leP ltP at *; omega
theorem NextR.live_some {now : Nat} {C : Int → Int → Bool} {l : List Pk} {r : Option Pk} {l2 : List Pk} (h : NextR now C l r l2) : ∀ {q : Pk} {Q : List Pk}, (l.map Pk.id).Nodup → (q :: Q).Perm (l.filter (live C)) → (∀ x ∈ q :: Q, leP q x) → q.due ≤ now → r = Option.some q ∧ Q.Perm (l2.filter (live C)) := by
  induction h with
  | none l h =>
    intro q Q _ hp _ hd
    have : q ∈ l := (List.mem_filter.1 (hp.mem_iff.1 (by simp))).1
    have := h q this
    omega
  | take p l l' h1 h2 h3 h4 =>
    intro q Q hn hp hle hd
    have hpl : p ∈ l.filter (live C) := List.mem_filter.2 ⟨h1.mem_iff.1 (by simp), by unfold live; rw [h4]; rfl⟩
    have hq : q ∈ l := (List.mem_filter.1 (hp.mem_iff.1 (by simp))).1
    obtain rfl : p = q := nodup_same hn (h1.mem_iff.1 (by simp)) hq ((h2 q hq).same (hle p (hp.mem_iff.2 hpl)))
    refine ⟨rfl, ?_⟩
    have h5 := h1.filter (live C)
    rw [List.filter_cons, if_pos (List.mem_filter.1 hpl).2] at h5
    exact (List.perm_cons p).1 (hp.trans h5.symm)
  | drop p l l1 r l' h1 h2 h3 h4 _ ih =>
    intro q Q hn hp hle hd
    have h5 := h1.filter (live C)
    rw [List.filter_cons, if_neg (by unfold live; rw [h4]; decide)] at h5
    refine ih ?_ (hp.trans h5.symm) hle hd
    have := (h1.map Pk.id).nodup_iff.2 hn
    exact (List.nodup_cons.1 this).2
theorem NextR.live_none {now : Nat} {C : Int → Int → Bool} {l : List Pk} {r : Option Pk} {l2 : List Pk} (h : NextR now C l r l2) (hd : ∀ q ∈ l.filter (live C), (now : Int) < q.due) : r = Option.none ∧ (l2.filter (live C)).Perm (l.filter (live C)) ∧ ∀ q ∈ l2, (now : Int) < q.due := by
  induction h with
  | none l h => exact ⟨rfl, List.Perm.refl _, h⟩
  | take p l l' h1 h2 h3 h4 =>
    have := hd p (List.mem_filter.2 ⟨h1.mem_iff.1 (by simp), by unfold live; rw [h4]; rfl⟩)
    omega
  | drop p l l1 r l' h1 h2 h3 h4 _ ih =>
    have h5 := h1.filter (live C)
    rw [List.filter_cons, if_neg (by unfold live; rw [h4]; decide)] at h5
    obtain ⟨g1, g2, g3⟩ := ih (fun q hq => hd q (h5.mem_iff.1 hq))
    exact ⟨g1, g2.trans h5, g3⟩
theorem NextR.nodup {now : Nat} {C : Int → Int → Bool} {l : List Pk} {r : Option Pk} {l2 : List Pk} (h : NextR now C l r l2) (hn : (l.map Pk.id).Nodup) : (l2.map Pk.id).Nodup := by
  obtain ⟨g, hg⟩ := h.cases'
  exact ((hg.map Pk.id).nodup_iff.2 hn).sublist ((List.sublist_append_right _ _).map _)
/-- a net by itself in the loop -/
structure Side (s : Ns) (t0 t : Nat) (C : Int → Int → Bool) : Prop where
  len : s.l.length ≤ 512
  good : Good s.l
  now : s.now = t0 + t
  C : s.C = C
  ids : ∀ p ∈ s.l, 1 ≤ p.id ∧ p.id ≤ 1000000
  nodup : (s.l.map Pk.id).Nodup
  due : ∀ p ∈ s.l, p.due ≤ (t0 : Int) + 100
theorem Side.next {s : Ns} {t0 t : Nat} {C : Int → Int → Bool} (h : Side s t0 t C) {r : Option Pk} {l2 : List Pk} (hr : NextR s.now s.C s.l r l2) : Side (withL s l2) t0 t C := by
  obtain ⟨h1, h2, _⟩ := hr.sub
  exact ⟨Nat.le_trans h1 h.len, fun q hq => h.good q (h2 q hq), h.now, h.C, fun q hq => h.ids q (h2 q hq), hr.nodup h.nodup, fun q hq => h.due q (h2 q hq)⟩
theorem Side.tick {s : Ns} {t0 t : Nat} {C : Int → Int → Bool} (h : Side s t0 t C) : Side (tickS s) t0 (t + 1) C :=
  ⟨h.len, h.good, by show s.now + 1 = _; rw [h.now]; omega, h.C, h.ids, h.nodup, h.due⟩
theorem Side.of_run {s0 s : Ns} {acts : List ActD} {sn cm : List Pk} (h : RunR s0 acts s sn cm) (hk : NOk s0 1000) (ho : OnceI s0 [] []) (hd : DueI s0) (hl : acts.length ≤ 200) : Side s s.now 0 s.C := by
  have h1 := h.ok hk
  have h2 := h.once' ho
  have h3 := h.due hd
  have h4 := h.short.1
  exact ⟨h1.len, h1.good, rfl, rfl, h2.ids (by omega), (h2.once.sub (List.sublist_append_right _ _)).1, fun p hp => (h3 p hp).2⟩
/-- both nets in the loop -/
structure Both (sn sm : Ns) (t0 t : Nat) (C : Int → Int → Bool) : Prop where
  n : Side sn t0 t C
  m : Side sm t0 t (fun _ _ => false)
  live : (sn.l.filter (live C)).Perm (sm.l.filter (live C))
/-- the time of all in the one that is cut has not come yet -/
def Later0 (s : Ns) (t : Nat) : Prop := 0 < t → ∀ p ∈ s.l, (s.now : Int) ≤ p.due
theorem Both.tick {sn sm : Ns} {t0 t : Nat} {C : Int → Int → Bool} (h : Both sn sm t0 t C) : Both (tickS sn) (tickS sm) t0 (t + 1) C := ⟨h.n.tick, h.m.tick, h.live⟩
theorem Side.same {s s2 : Ns} {t0 t : Nat} {C C2 : Int → Int → Bool} (h : Side s t0 t C) (h2 : Side s2 t0 t C2) : s.now = s2.now := by rw [h.now, h2.now]
/-- the one without cuts: nothing comes, or the least does -/
theorem Both.next_m {sn sm : Ns} {t0 t : Nat} {C : Int → Int → Bool} (h : Both sn sm t0 t C) {r : Option Pk} {l2 : List Pk} (hr : NextR sm.now sm.C sm.l r l2) :
    (r = Option.none ∧ l2 = sm.l ∧ ∀ q ∈ sm.l, (sm.now : Int) < q.due) ∨ ∃ q, r = Option.some q ∧ q.due ≤ sm.now ∧ (q :: l2).Perm sm.l ∧ ∀ x ∈ sm.l, leP q x := by
  have hC := h.m.C
  cases hr with
  | none _ h => exact .inl ⟨rfl, rfl, h⟩
  | take p _ l' h1 h2 h3 h4 => exact .inr ⟨p, rfl, h3, h1, h2⟩
  | drop p _ l1 r l' h1 h2 h3 h4 _ => rw [hC] at h4; cases h4
theorem Both.dead {sn sm : Ns} {t0 t : Nat} {C : Int → Int → Bool} (h : Both sn sm t0 t C) {q : Pk} {l2 : List Pk} (hr : NextR sm.now sm.C sm.l (Option.some q) l2) (hp : (q :: l2).Perm sm.l) (hq : C (lo q.src q.dst) (hi q.src q.dst) = true) : Both sn (withL sm l2) t0 t C := by
  refine ⟨h.n, h.m.next hr, h.live.trans ?_⟩
  have h5 := hp.filter (Go.Proofs.Ytjopbglimjhefaa.live C)
  rw [List.filter_cons, if_neg (by unfold Go.Proofs.Ytjopbglimjhefaa.live; rw [hq]; decide)] at h5
  exact h5.symm
theorem Both.alive {sn sm : Ns} {t0 t : Nat} {C : Int → Int → Bool} (h : Both sn sm t0 t C) {q : Pk} {l2 : List Pk} (hr : NextR sm.now sm.C sm.l (Option.some q) l2) (hd : q.due ≤ sm.now) (hp : (q :: l2).Perm sm.l) (hle : ∀ x ∈ sm.l, leP q x) (hq : C (lo q.src q.dst) (hi q.src q.dst) = false)
    {r : Option Pk} {l3 : List Pk} (hr3 : NextR sn.now sn.C sn.l r l3) : r = Option.some q ∧ Both (withL sn l3) (withL sm l2) t0 t C := by
  have hC := h.n.C
  have hnow := h.n.same h.m
  have hs := h.n.next hr3
  rw [hC] at hr3
  have h5 := hp.filter (Go.Proofs.Ytjopbglimjhefaa.live C)
  rw [List.filter_cons, if_pos (by unfold Go.Proofs.Ytjopbglimjhefaa.live; rw [hq]; rfl)] at h5
  obtain ⟨g1, g2⟩ := hr3.live_some h.n.nodup (h5.trans h.live.symm) (fun x hx => hle x ((List.mem_filter.1 (h5.mem_iff.1 hx)).1)) (by rw [hnow]; exact hd)
  exact ⟨g1, hs, h.m.next hr, g2.symm⟩
theorem Both.more {sn sm : Ns} {t0 t : Nat} {C : Int → Int → Bool} (h : Both sn sm t0 t C) (hl : ∀ q ∈ sm.l, (sm.now : Int) < q.due) {r : Option Pk} {l3 : List Pk} (hr3 : NextR sn.now sn.C sn.l r l3) : r = Option.none ∧ Both (withL sn l3) sm t0 t C ∧ ∀ q ∈ l3, (sn.now : Int) < q.due := by
  have hC := h.n.C
  have hnow := h.n.same h.m
  have hs := h.n.next hr3
  rw [hC] at hr3
  obtain ⟨g1, g2, g3⟩ := hr3.live_none (fun q hq => by rw [hnow]; exact hl q (List.mem_filter.1 (h.live.mem_iff.1 hq)).1)
  exact ⟨g1, ⟨hs, h.m, g2.trans h.live⟩, g3⟩
theorem cut_link {a b x y : Int} (h : linkB a b = true) : setC (fun _ _ => false) (lo a b) (hi a b) true (lo x y) (hi x y) = (decide (x = a ∧ y = b) || decide (x = b ∧ y = a)) := by
  unfold setC lo hi
  by_cases e1 : x = a ∧ y = b
  · obtain ⟨rfl, rfl⟩ := e1; simp
  · by_cases e2 : x = b ∧ y = a
    · obtain ⟨rfl, rfl⟩ := e2
      rw [if_pos (by constructor <;> (split <;> split <;> omega))]
      simp
    · rw [if_neg (by split <;> split <;> omega)]
      simp only [decide_eq_false e1, decide_eq_false e2]; rfl
end Go.Proofs.Ytjopbglimjhefaa
