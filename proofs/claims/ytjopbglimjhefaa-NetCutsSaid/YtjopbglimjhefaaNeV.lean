/- What a run leaves under way; NetComes: plain laws. -/
import Derived.Test.YtjopbglimjhefaaNeT
import Derived.Test.YtjopbglimjhefaaNeU
namespace Go.Proofs.Ytjopbglimjhefaa
open Go.RowKit Go.Maps Go.WideMaps

def DueI (s : Ns) : Prop := ∀ p ∈ s.l, 0 ≤ p.due ∧ p.due ≤ (s.now : Int) + 100
theorem sendOk_d {x y d : Int} (h : sendOk x y d = true) : 0 ≤ d ∧ d ≤ 100 := by
  unfold sendOk at h
  simp only [Bool.and_eq_true, decide_eq_true_eq] at h
  exact ⟨h.1.2, h.2⟩
theorem DueI.send {s : Ns} (h : DueI s) (x y : Int) (t : ByteArray) (d : Int) : DueI (sendS s x y t d).2.2 := by
  unfold sendS
  split
  · rename_i hok
    have := sendOk_d hok
    split
    · intro p hp
      rcases List.mem_cons.1 hp with rfl | hp
      · show 0 ≤ (s.now : Int) + d ∧ (s.now : Int) + d ≤ (s.now : Int) + 100
        omega
      · exact h p hp
    · exact h
  · exact h
theorem DueI.lose {s s' : Ns} {id x : Int} (h : DueI s) (hl : LoseS s id x s') : DueI s' := by
  rcases hl with ⟨_, _, rfl⟩ | ⟨p, l2, _, hp, _, rfl⟩
  · exact h
  · exact fun q hq => h q (hp.mem_iff.1 (List.mem_cons_of_mem _ hq))
theorem DueI.late {s s' : Ns} {id d x : Int} (h : DueI s) (hl : LateS s id d x s') : DueI s' := by
  rcases hl with ⟨_, _, rfl⟩ | ⟨_, _, _, rfl⟩ | ⟨hd, p, l2, _, hp, _, rfl⟩
  · exact h
  · exact h
  · intro q hq
    rcases List.mem_cons.1 hq with rfl | hq
    · show 0 ≤ (s.now : Int) + d ∧ (s.now : Int) + d ≤ (s.now : Int) + 100
      omega
    · exact h q (hp.mem_iff.1 (List.mem_cons_of_mem _ hq))
theorem DueI.cut {s : Ns} (h : DueI s) (x y : Int) (c : Bool) : DueI (cutS s x y c).2 := by
  unfold cutS
  split
  · exact h
  · exact h
theorem DueI.tick {s : Ns} (h : DueI s) : DueI (tickS s) := fun p hp => by
  have := h p hp
  show 0 ≤ p.due ∧ p.due ≤ ((s.now + 1 : Nat) : Int) + 100
  omega
theorem DueI.next {s : Ns} (h : DueI s) {r : Option Pk} {l2 : List Pk} (hr : NextR s.now s.C s.l r l2) : DueI (withL s l2) := fun p hp => h p (hr.sub.2.1 p hp)
theorem ActR.due {s : Ns} {a : ActD} {s' : Ns} {sn cm : List Pk} (h : ActR s a s' sn cm) (hk : DueI s) : DueI s' := by
  rcases h with ⟨_, rfl, _⟩ | ⟨_, rfl, _⟩ | ⟨_, r, l2, hr, rfl, _⟩ | ⟨_, ⟨x, hx⟩, _⟩ | ⟨_, ⟨x, hx⟩, _⟩ | ⟨_, rfl, _⟩ | ⟨_, rfl, _⟩
  · exact hk.tick
  · exact hk.send _ _ _ _
  · exact hk.next hr
  · exact hk.lose hx
  · exact hk.late hx
  · exact hk.cut _ _ _
  · exact hk
theorem RunR.due {acts : List ActD} {s s' : Ns} {sn cm : List Pk} (h : RunR s acts s' sn cm) (hk : DueI s) : DueI s' := by
  induction h with
  | nil => exact hk
  | snoc _ h2 ih => exact h2.due ih
theorem DueI.new : DueI Ns.new := fun p hp => by simp [Ns.new] at hp
theorem OnceI.ids {s : Ns} {sn cm : List Pk} (h : OnceI s sn cm) (hs : sn.length ≤ 1000000) : ∀ p ∈ s.l, 1 ≤ p.id ∧ p.id ≤ 1000000 := fun p hp => by
  obtain ⟨i, hi, e, _⟩ := h.once.2 p (by simp [hp])
  omega
/-- links up to (a, b) are mended -/
structure Mend (s0 s : Ns) (a b : Int) : Prop where
  l : s.l = s0.l
  now : s.now = s0.now
  N : (s.N : Int) ≤ s0.N + 10 * a + b
  C : ∀ x y, Lk x y → (y < a ∨ (y = a ∧ x < b)) → s.C x y = false
theorem Mend.start (s : Ns) : Mend s s 1 1 := ⟨rfl, rfl, by omega, fun x y h h2 => by unfold Lk at h; omega⟩
theorem Mend.step {s0 s : Ns} {a b : Int} (h : Mend s0 s a b) (hb : 1 ≤ b) (hba : b < a) (ha : a ≤ 5) : Mend s0 (cutS s a b false).2 a (b + 1) := by
  have hlk : linkB a b = true := by unfold linkB; simp; omega
  unfold cutS
  rw [if_pos hlk]
  refine ⟨h.l, h.now, by have := h.N; show ((s.N + 1 : Nat) : Int) ≤ _; omega, fun x y hxy hc => ?_⟩
  show setC s.C (lo a b) (hi a b) false x y = false
  unfold setC
  split
  · rfl
  · rename_i hn
    refine h.C x y hxy ?_
    unfold lo hi at hn
    rw [if_neg (by omega), if_neg (by omega)] at hn
    omega
theorem Mend.row {s0 s : Ns} {a b : Int} (h : Mend s0 s a b) (hba : a ≤ b) (hb : b ≤ 10) : Mend s0 s (a + 1) 1 :=
  ⟨h.l, h.now, by have := h.N; omega, fun x y hxy hc => h.C x y hxy (by unfold Lk at hxy; omega)⟩
structure ComeI (t0 t : Nat) (s : Ns) (last : Pk) : Prop where
  len : s.l.length ≤ 512
  good : Good s.l
  now : s.now = t0 + t
  C : ∀ x y, Lk x y → s.C x y = false
  ids : ∀ p ∈ s.l, 1 ≤ p.id ∧ p.id ≤ 1000000
  due : ∀ p ∈ s.l, 0 ≤ p.due ∧ p.due ≤ (t0 : Int) + 100
  late : 0 < t → ∀ p ∈ s.l, (s.now : Int) ≤ p.due
  after : ∀ p ∈ s.l, leP last p
theorem ComeI.none {t0 t : Nat} {s : Ns} {last : Pk} (h : ComeI t0 t s last) (hn : ∀ q ∈ s.l, (s.now : Int) < q.due) : ComeI t0 (t + 1) (tickS s) last :=
  ⟨h.len, h.good, by show s.now + 1 = _; rw [h.now]; omega, h.C, h.ids, h.due, fun _ p hp => by have := hn p hp; show ((s.now + 1 : Nat) : Int) ≤ _; omega, h.after⟩
theorem ComeI.take {t0 t : Nat} {s : Ns} {last p : Pk} {l' : List Pk} (h : ComeI t0 t s last) (hp : (p :: l').Perm s.l) (hl : ∀ q ∈ s.l, leP p q) : ComeI t0 t (withL s l') p ∧ l'.length + 1 = s.l.length ∧ (0 < t → (s.now : Int) ≤ p.due) ∧ leP last p := by
  have hm : ∀ q ∈ l', q ∈ s.l := fun q hq => hp.mem_iff.1 (List.mem_cons_of_mem _ hq)
  have hpm : p ∈ s.l := hp.mem_iff.1 (by simp)
  have hlen := hp.length_eq
  rw [List.length_cons] at hlen
  exact ⟨⟨by have := h.len; show l'.length ≤ 512; omega, fun q hq => h.good q (hm q hq), h.now, h.C, fun q hq => h.ids q (hm q hq), fun q hq => h.due q (hm q hq), fun ht q hq => h.late ht q (hm q hq), fun q hq => hl q (hm q hq)⟩, hlen, fun ht => h.late ht p hpm, h.after p hpm⟩
theorem ComeI.next {t0 t : Nat} {s : Ns} {last : Pk} (h : ComeI t0 t s last) {r : Option Pk} {l2 : List Pk} (hr : NextR s.now s.C s.l r l2) :
    (r = Option.none ∧ l2 = s.l ∧ ∀ q ∈ s.l, (s.now : Int) < q.due) ∨ ∃ p, r = Option.some p ∧ p.due ≤ s.now ∧ (p :: l2).Perm s.l ∧ ∀ q ∈ s.l, leP p q := by
  cases hr with
  | none _ h => exact .inl ⟨rfl, rfl, h⟩
  | take p _ l' h1 h2 h3 h4 => exact .inr ⟨p, rfl, h3, h1, h2⟩
  | drop p _ l1 r l' h1 h2 h3 h4 _ =>
    rw [h.C _ _ (h.good p (h1.mem_iff.1 (by simp)))] at h4
    cases h4
theorem ComeI.done {t0 : Nat} {s : Ns} {last : Pk} (h : ComeI t0 101 s last) : s.l = [] := by
  cases hl : s.l with
  | nil => rfl
  | cons p l =>
    have h1 := h.late (by omega) p (by rw [hl]; simp)
    have h2 := h.due p (by rw [hl]; simp)
    have := h.now
    omega
theorem Zoo.putBox {W0 W : World} {L : List Th} {B : Nat} {p : Pk} (h : Zoo W0 W L) (i : Nat) (hi : L[i]? = some (boxT B (pkArr p) 30)) (q : Pk) : Zoo W0 (putB W B q) (L.set i (boxT B (pkArr q) 30)) := by
  obtain ⟨F, ⟨h1, hF⟩, hlow, hact⟩ := h.act i _ hi
  have hk := kept_putB W B q
  exact hact _ F _ ⟨PkAt.putB (show PkAt W B p from h1) q, hF⟩ ⟨hk.1, hk.2.1, hk.2.2.1, hk.2.2.2.1, fun k hk1 hn => hk.2.2.2.2 k hk1 (fun e => hn ((hF k).2 e)), fun k hk1 => .inl hk1⟩
end Go.Proofs.Ytjopbglimjhefaa
