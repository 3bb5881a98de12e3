/- The document's net beside the program's: plain laws. -/
import Derived.Test.YtjopbglimjhefaaNeT
namespace Go.Proofs.Ytjopbglimjhefaa
open Go.RowKit

theorem leP.id {p q : Pk} (h1 : leP p q) (h2 : leP q p) : p.id = q.id := by unfold leP ltP at *; omega
theorem nodup_id {l : List Pk} (h : (l.map Pk.id).Nodup) {p q : Pk} (hp : p ∈ l) (hq : q ∈ l) (e : p.id = q.id) : p = q := by
  obtain ⟨i, hi, rfl⟩ := List.mem_iff_getElem.1 hp
  obtain ⟨j, hj, rfl⟩ := List.mem_iff_getElem.1 hq
  have := (List.getElem_inj (i := i) (j := j) (h₀ := by simpa using hi) (h₁ := by simpa using hj) h).1 (by simpa using e)
  subst this; rfl
theorem perm_cons_id {l : List Pk} (h : (l.map Pk.id).Nodup) {p q : Pk} {l1 l2 : List Pk} (h1 : (p :: l1).Perm l) (h2 : (q :: l2).Perm l) (e : p.id = q.id) : p = q ∧ l1.Perm l2 := by
  obtain rfl := nodup_id h (h1.mem_iff.1 (by simp)) (h2.mem_iff.1 (by simp)) e
  exact ⟨rfl, (List.perm_cons p).1 (h1.trans h2.symm)⟩
/-- the document's net: packets by rising numbers, the time, the greatest number, links that are cut -/
structure Rs where
  l : List Pk
  now : Nat
  last : Nat
  cs : List Bool
def cutI (x y : Int) : Nat := (6 * x + y).toNat
def cutAt (cs : List Bool) (x y : Int) : Bool := cs.getD (cutI x y) false
/-- the two are alike -/
structure Alike (s : Ns) (r : Rs) : Prop where
  perm : r.l.Perm s.l
  rise : r.l.Pairwise (fun p q => p.id < q.id)
  ids : ∀ p ∈ r.l, 1 ≤ p.id ∧ p.id ≤ (s.last : Int)
  now : r.now = s.now
  last : r.last = s.last
  len : r.cs.length = 36
  cut : ∀ x y, linkB x y = true → cutAt r.cs x y = s.C (lo x y) (hi x y)
theorem Alike.new : Alike Ns.new ⟨[], 0, 0, List.replicate 36 false⟩ :=
  ⟨List.Perm.refl _, List.Pairwise.nil, fun p hp => by simp at hp, rfl, rfl, by simp, fun x y _ => by
    show (List.replicate 36 false).getD _ false = false
    rw [List.getD_eq_getElem?_getD, List.getElem?_replicate]
    split <;> rfl⟩
theorem rise_nodup {l : List Pk} (h : l.Pairwise (fun p q => p.id < q.id)) : (l.map Pk.id).Nodup := by
  rw [List.nodup_iff_pairwise_ne, List.pairwise_map]
  exact h.imp (fun h => by omega)
theorem rise_same : ∀ {l l2 : List Pk}, l.Perm l2 → l.Pairwise (fun p q => p.id < q.id) → l2.Pairwise (fun p q => p.id < q.id) → l = l2 := fun h h1 h2 =>
  h.eq_of_pairwise (fun a b _ _ hab hba => by have : a.id < b.id := hab; have : b.id < a.id := hba; omega) h1 h2
theorem Alike.nodup {s : Ns} {r : Rs} (h : Alike s r) : (s.l.map Pk.id).Nodup := (h.perm.map Pk.id).nodup_iff.1 (rise_nodup h.rise)
theorem Alike.tick {s : Ns} {r : Rs} (h : Alike s r) : Alike (tickS s) ⟨r.l, r.now + 1, r.last, r.cs⟩ := ⟨h.perm, h.rise, h.ids, by show r.now + 1 = s.now + 1; rw [h.now], h.last, h.len, h.cut⟩
/-- what the document's Send says and does -/
def sendR (r : Rs) (x y : Int) (t : ByteArray) (d : Int) : Int × Int × Rs :=
  if sendOk x y d = true then
    if r.l.length < 512 then (((r.last + 1 : Nat) : Int), 0, ⟨r.l ++ [⟨(r.last + 1 : Nat), x, y, t, r.now + d⟩], r.now, r.last + 1, r.cs⟩) else (0, 7, r)
  else (0, 1, r)
theorem Alike.send {s : Ns} {r : Rs} (h : Alike s r) (x y : Int) (t : ByteArray) (d : Int) : (sendR r x y t d).1 = (sendS s x y t d).1 ∧ (sendR r x y t d).2.1 = (sendS s x y t d).2.1 ∧ Alike (sendS s x y t d).2.2 (sendR r x y t d).2.2 := by
  have hl := h.perm.length_eq
  unfold sendR sendS
  split
  · rw [hl]
    split
    · refine ⟨by rw [h.last]; rfl, rfl, ?_⟩
      unfold sent1
      refine ⟨?_, ?_, ?_, h.now, by show r.last + 1 = s.last + 1; rw [h.last], h.len, h.cut⟩
      · rw [h.last, h.now]
        exact (List.perm_append_singleton _ _).trans (h.perm.cons _)
      · refine List.pairwise_append.2 ⟨h.rise, List.pairwise_singleton _ _, fun a ha b hb => ?_⟩
        simp only [List.mem_singleton] at hb
        subst hb
        have := (h.ids a ha).2
        show a.id < ((r.last + 1 : Nat) : Int)
        rw [h.last]; omega
      · intro p hp
        show 1 ≤ p.id ∧ p.id ≤ ((s.last + 1 : Nat) : Int)
        rcases List.mem_append.1 hp with hp | hp
        · have := h.ids p hp; omega
        · simp only [List.mem_singleton] at hp
          subst hp
          show 1 ≤ ((r.last + 1 : Nat) : Int) ∧ ((r.last + 1 : Nat) : Int) ≤ _
          rw [h.last]; omega
    · exact ⟨rfl, rfl, h⟩
  · exact ⟨rfl, rfl, h⟩
/-- the place of the packet of a number -/
def AtR (l : List Pk) (id : Int) (j : Int) : Prop := (j = -1 ∧ ∀ q ∈ l, q.id ≠ id) ∨ ∃ i : Nat, j = i ∧ i < l.length ∧ (pat l i).id = id
theorem erase_perm {l : List Pk} {i : Nat} (hi : i < l.length) : (pat l i :: l.eraseIdx i).Perm l := by
  rw [List.eraseIdx_eq_take_drop_succ]
  have e : l = l.take i ++ pat l i :: l.drop (i + 1) := by rw [pat_lt hi, ← List.drop_eq_getElem_cons, List.take_append_drop]
  calc (pat l i :: (l.take i ++ l.drop (i + 1))).Perm (l.take i ++ pat l i :: l.drop (i + 1)) := List.perm_middle.symm
    _ = l := e.symm
theorem Alike.drop {s : Ns} {r : Rs} (h : Alike s r) {l2 l3 : List Pk} (hs : l2.Sublist r.l) (hp : l2.Perm l3) : Alike (withL s l3) ⟨l2, r.now, r.last, r.cs⟩ :=
  ⟨hp, h.rise.sublist hs, fun p hp => h.ids p (hs.subset hp), h.now, h.last, h.len, h.cut⟩
/-- what the document's Lose says and does -/
def LoseR (r : Rs) (id e : Int) (r' : Rs) : Prop := ((∀ q ∈ r.l, q.id ≠ id) ∧ e = 6 ∧ r' = r) ∨ ∃ i, i < r.l.length ∧ (pat r.l i).id = id ∧ e = 0 ∧ r' = ⟨r.l.eraseIdx i, r.now, r.last, r.cs⟩
theorem Alike.lose {s s' : Ns} {r r' : Rs} {id e e' : Int} (h : Alike s r) (h1 : LoseS s id e s') (h2 : LoseR r id e' r') : e = e' ∧ Alike s' r' := by
  rcases h1 with ⟨h3, rfl, rfl⟩ | ⟨p, l2, h3, h4, rfl, rfl⟩ <;> rcases h2 with ⟨h5, rfl, rfl⟩ | ⟨i, h5, h6, rfl, rfl⟩
  · exact ⟨rfl, h⟩
  · exact absurd h6 (h3 _ (h.perm.mem_iff.1 (by rw [pat_lt h5]; exact List.getElem_mem h5)))
  · exact absurd h3 (h5 p (h.perm.mem_iff.2 (h4.mem_iff.1 (by simp))))
  · have hq := erase_perm h5
    obtain ⟨_, e⟩ := perm_cons_id h.nodup (hq.trans h.perm) h4 (h6.trans h3.symm)
    exact ⟨rfl, h.drop (List.eraseIdx_sublist ..) e⟩
def LateR (r : Rs) (id d e : Int) (r' : Rs) : Prop := ((∀ q ∈ r.l, q.id ≠ id) ∧ e = 6 ∧ r' = r) ∨ ((∃ p ∈ r.l, p.id = id) ∧ ¬ (0 ≤ d ∧ d ≤ 100) ∧ e = 1 ∧ r' = r) ∨ ((0 ≤ d ∧ d ≤ 100) ∧ ∃ i, i < r.l.length ∧ (pat r.l i).id = id ∧ e = 0 ∧ r' = ⟨r.l.set i ((pat r.l i).at_ (r.now + d)), r.now, r.last, r.cs⟩)
theorem Alike.late {s s' : Ns} {r r' : Rs} {id d e e' : Int} (h : Alike s r) (h1 : LateS s id d e s') (h2 : LateR r id d e' r') : e = e' ∧ Alike s' r' := by
  have no : ∀ {p}, (∀ q ∈ s.l, q.id ≠ id) → p ∈ r.l → p.id = id → False := fun h3 hp e => h3 _ (h.perm.mem_iff.1 hp) e
  have no2 : ∀ {p}, (∀ q ∈ r.l, q.id ≠ id) → p ∈ s.l → p.id = id → False := fun h3 hp e => h3 _ (h.perm.mem_iff.2 hp) e
  have pm : ∀ i, i < r.l.length → pat r.l i ∈ r.l := fun i hi => by rw [pat_lt hi]; exact List.getElem_mem hi
  rcases h1 with ⟨h3, rfl, rfl⟩ | ⟨⟨p, hp, h3⟩, h4, rfl, rfl⟩ | ⟨h3, p, l2, h4, h5, rfl, rfl⟩ <;> rcases h2 with ⟨g3, rfl, rfl⟩ | ⟨⟨q, hq, g3⟩, g4, rfl, rfl⟩ | ⟨g3, i, hi, g4, rfl, rfl⟩
  · exact ⟨rfl, h⟩
  · exact (no h3 hq g3).elim
  · exact (no h3 (pm i hi) g4).elim
  · exact (no2 g3 hp h3).elim
  · exact ⟨rfl, h⟩
  · exact absurd g3 h4
  · exact (no2 g3 (h5.mem_iff.1 (by simp)) h4).elim
  · exact absurd h3 g4
  · refine ⟨rfl, ?_⟩
    obtain ⟨l4, k1, k2⟩ := set_perm r.l i hi
    obtain ⟨e1, e2⟩ := perm_cons_id h.nodup (k1.trans h.perm) h5 (g4.trans h4.symm)
    have hid : ∀ x, ((pat r.l i).at_ x).id = (pat r.l i).id := fun _ => rfl
    refine ⟨?_, ?_, ?_, h.now, h.last, h.len, h.cut⟩
    · show (r.l.set i _).Perm (p.at_ (s.now + d) :: l2)
      rw [← e1, h.now]
      exact (k2 _).symm.trans (e2.cons _)
    · have e3 : (r.l.set i ((pat r.l i).at_ (r.now + d))).map Pk.id = r.l.map Pk.id := by
        rw [List.map_set, hid, pat_lt hi]
        apply List.ext_getElem?
        intro k
        rw [List.getElem?_set]
        by_cases e : i = k
        · subst e; simp [hi]
        · rw [if_neg e]
      have h1 : (r.l.map Pk.id).Pairwise (· < ·) := List.pairwise_map.2 h.rise
      rw [← e3] at h1
      exact List.pairwise_map.1 h1
    · intro q hq
      rcases List.mem_or_eq_of_mem_set hq with hq | hq
      · exact h.ids q hq
      · subst hq; rw [hid]; exact h.ids _ (pm i hi)
def DoubleR (r : Rs) (id d : Int) (x : Int × Int × Rs) : Prop := ((∀ q ∈ r.l, q.id ≠ id) ∧ x = (0, 6, r)) ∨ ∃ i, i < r.l.length ∧ (pat r.l i).id = id ∧ x = sendR r (pat r.l i).src (pat r.l i).dst (pat r.l i).data d
theorem Alike.double {s : Ns} {r : Rs} {id d : Int} {x : Int × Int × Ns} {y : Int × Int × Rs} (h : Alike s r) (h1 : DoubleS s id d x) (h2 : DoubleR r id d y) : y.1 = x.1 ∧ y.2.1 = x.2.1 ∧ Alike x.2.2 y.2.2 := by
  rcases h1 with ⟨h3, rfl⟩ | ⟨p, hp, h3, rfl⟩ <;> rcases h2 with ⟨g3, rfl⟩ | ⟨i, hi, g3, rfl⟩
  · exact ⟨rfl, rfl, h⟩
  · exact absurd g3 (h3 _ (h.perm.mem_iff.1 (by rw [pat_lt hi]; exact List.getElem_mem hi)))
  · exact absurd h3 (g3 p (h.perm.mem_iff.2 hp))
  · have hq : pat r.l i ∈ s.l := h.perm.mem_iff.1 (by rw [pat_lt hi]; exact List.getElem_mem hi)
    obtain rfl := nodup_id h.nodup hp hq (h3.trans g3.symm)
    exact h.send _ _ _ _
def cutR (r : Rs) (x y : Int) (c : Bool) : Int × Rs := if linkB x y = true then (0, ⟨r.l, r.now, r.last, (r.cs.set (cutI x y) c).set (cutI y x) c⟩) else (1, r)
theorem cutI_lt {x y : Int} (h : linkB x y = true) : cutI x y < 36 := by
  unfold linkB at h; unfold cutI
  simp only [decide_eq_true_eq] at h
  omega
theorem cutI_inj {x y a b : Int} (h : linkB x y = true) (h2 : linkB a b = true) (e : cutI x y = cutI a b) : x = a ∧ y = b := by
  unfold linkB at h h2; unfold cutI at e
  simp only [decide_eq_true_eq] at h h2
  omega
theorem linkB_swap {x y : Int} (h : linkB x y = true) : linkB y x = true := by
  unfold linkB at *
  simp only [decide_eq_true_eq] at *
  omega
theorem cutAt_set {cs : List Bool} (hl : cs.length = 36) {x y a b : Int} (h : linkB x y = true) (h2 : linkB a b = true) (c : Bool) : cutAt (cs.set (cutI x y) c) a b = if a = x ∧ b = y then c else cutAt cs a b := by
  unfold cutAt
  rw [List.getD_eq_getElem?_getD, List.getElem?_set]
  by_cases e : cutI x y = cutI a b
  · obtain ⟨rfl, rfl⟩ := cutI_inj h h2 e
    rw [if_pos rfl, if_pos (by have := cutI_lt h; omega : cutI x y < cs.length), if_pos ⟨rfl, rfl⟩]; rfl
  · rw [if_neg e, if_neg (by rintro ⟨rfl, rfl⟩; exact e rfl), List.getD_eq_getElem?_getD]
theorem Alike.doCut {s : Ns} {r : Rs} (h : Alike s r) (x y : Int) (c : Bool) : (cutR r x y c).1 = (cutS s x y c).1 ∧ Alike (cutS s x y c).2 (cutR r x y c).2 := by
  unfold cutR cutS
  split
  · rename_i hl
    refine ⟨rfl, h.perm, h.rise, h.ids, h.now, h.last, by simp [h.len], fun a b hab => ?_⟩
    show cutAt ((r.cs.set (cutI x y) c).set (cutI y x) c) a b = setC s.C (lo x y) (hi x y) c (lo a b) (hi a b)
    rw [cutAt_set (by simp [h.len]) (linkB_swap hl) hab, cutAt_set h.len hl hab, h.cut a b hab]
    unfold setC
    unfold linkB at hl hab
    simp only [decide_eq_true_eq] at hl hab
    by_cases e1 : a = y ∧ b = x
    · rw [if_pos e1, if_pos (by unfold lo hi; obtain ⟨rfl, rfl⟩ := e1; constructor <;> split <;> split <;> omega)]
    · rw [if_neg e1]
      by_cases e2 : a = x ∧ b = y
      · rw [if_pos e2, if_pos (by obtain ⟨rfl, rfl⟩ := e2; exact ⟨rfl, rfl⟩)]
      · rw [if_neg e2, if_neg (fun h => by unfold lo hi at h; obtain ⟨h1, h2⟩ := h; split at h1 <;> split at h1 <;> simp_all <;> omega)]
  · exact ⟨rfl, h⟩
theorem NextR.det {now : Nat} {C : Int → Int → Bool} {l : List Pk} {r : Option Pk} {l1 : List Pk} (h : NextR now C l r l1) : ∀ {l' : List Pk} {C' : Int → Int → Bool} {r' : Option Pk} {l2 : List Pk}, (l.map Pk.id).Nodup → l'.Perm l → (∀ q ∈ l, C' (lo q.src q.dst) (hi q.src q.dst) = C (lo q.src q.dst) (hi q.src q.dst)) → NextR now C' l' r' l2 → r = r' ∧ l2.Perm l1 := by
  induction h with
  | none l h =>
    intro l' C' r' l2 hn hp hc h2
    obtain ⟨rfl, rfl⟩ := h2.later (fun q hq => h q (hp.mem_iff.1 hq))
    exact ⟨rfl, hp⟩
  | take p l l1 h1 h2 h3 h4 =>
    intro l' C' r' l2 hn hp hc h5
    have hpm : p ∈ l := h1.mem_iff.1 (by simp)
    cases h5 with
    | none _ h => have := h p (hp.mem_iff.2 hpm); omega
    | take q _ l3 g1 g2 g3 g4 =>
      have hqm : q ∈ l := (g1.trans hp).mem_iff.1 (by simp)
      obtain ⟨rfl, e⟩ := perm_cons_id hn h1 (g1.trans hp) (leP.id (h2 q hqm) (g2 p (hp.mem_iff.2 hpm)))
      exact ⟨rfl, e.symm⟩
    | drop q _ l3 _ _ g1 g2 g3 g4 _ =>
      have hqm : q ∈ l := (g1.trans hp).mem_iff.1 (by simp)
      obtain ⟨rfl, e⟩ := perm_cons_id hn h1 (g1.trans hp) (leP.id (h2 q hqm) (g2 p (hp.mem_iff.2 hpm)))
      rw [hc p hpm, h4] at g4; cases g4
  | drop p l l1 r l' h1 h2 h3 h4 _ ih =>
    intro l'' C' r' l2 hn hp hc h5
    have hpm : p ∈ l := h1.mem_iff.1 (by simp)
    cases h5 with
    | none _ h => have := h p (hp.mem_iff.2 hpm); omega
    | take q _ l3 g1 g2 g3 g4 =>
      have hqm : q ∈ l := (g1.trans hp).mem_iff.1 (by simp)
      obtain ⟨rfl, e⟩ := perm_cons_id hn h1 (g1.trans hp) (leP.id (h2 q hqm) (g2 p (hp.mem_iff.2 hpm)))
      rw [hc p hpm, h4] at g4; cases g4
    | drop q _ l3 _ _ g1 g2 g3 g4 g5 =>
      have hqm : q ∈ l := (g1.trans hp).mem_iff.1 (by simp)
      obtain ⟨rfl, e⟩ := perm_cons_id hn h1 (g1.trans hp) (leP.id (h2 q hqm) (g2 p (hp.mem_iff.2 hpm)))
      have hn1 : (l1.map Pk.id).Nodup := by
        have := (h1.map Pk.id).nodup_iff.2 hn
        rw [List.map_cons] at this
        exact this.tail
      exact ih hn1 e.symm (fun q hq => hc q (h1.mem_iff.1 (List.mem_cons_of_mem _ hq))) g5
/-- what the document's Next says and does -/
def NextD (r : Rs) (C : Int → Int → Bool) (p : Option Pk) (r' : Rs) : Prop := ∃ l2, NextR r.now C r.l p l2 ∧ l2.Sublist r.l ∧ r' = ⟨l2, r.now, r.last, r.cs⟩
theorem Alike.next {s : Ns} {r r' : Rs} {p p' : Option Pk} {l2 : List Pk} {C : Int → Int → Bool} (h : Alike s r) (hC : ∀ q ∈ s.l, C (lo q.src q.dst) (hi q.src q.dst) = s.C (lo q.src q.dst) (hi q.src q.dst)) (h1 : NextR s.now s.C s.l p l2) (h2 : NextD r C p' r') : p = p' ∧ Alike (withL s l2) r' := by
  obtain ⟨l3, h3, h4, rfl⟩ := h2
  rw [h.now] at h3
  obtain ⟨e, hp⟩ := h1.det h.nodup h.perm hC h3
  exact ⟨e, h.drop h4 hp⟩
/-- the best of the first i: the first one of the least Due, of those whose time has come -/
def BestI (now : Nat) (l : List Pk) (i : Nat) (j : Int) : Prop := (j = -1 ∧ ∀ k, k < i → (now : Int) < (pat l k).due) ∨ ∃ m : Nat, j = m ∧ m < i ∧ (pat l m).due ≤ now ∧ ∀ k, k < i → (pat l k).due ≤ now → (pat l m).due ≤ (pat l k).due ∧ (k < m → (pat l m).due < (pat l k).due)
theorem BestI.zero (now : Nat) (l : List Pk) : BestI now l 0 (-1) := .inl ⟨rfl, fun k hk => by omega⟩
theorem BestI.late {now : Nat} {l : List Pk} {i : Nat} {j : Int} (h : BestI now l i j) (hd : (now : Int) < (pat l i).due) : BestI now l (i + 1) j := by
  rcases h with ⟨rfl, h⟩ | ⟨m, rfl, h1, h2, h3⟩
  · refine .inl ⟨rfl, fun k hk => ?_⟩
    by_cases e : k = i
    · rw [e]; exact hd
    · exact h k (by omega)
  · refine .inr ⟨m, rfl, by omega, h2, fun k hk hk2 => ?_⟩
    by_cases e : k = i
    · subst e; omega
    · exact h3 k (by omega) hk2
theorem BestI.stays {now : Nat} {l : List Pk} {i m : Nat} (h : BestI now l i m) (hd : (pat l m).due ≤ (pat l i).due) : BestI now l (i + 1) m := by
  rcases h with ⟨h, _⟩ | ⟨m', e, h1, h2, h3⟩
  · omega
  · obtain rfl : m' = m := by omega
    refine .inr ⟨m', rfl, by omega, h2, fun k hk hk2 => ?_⟩
    by_cases e : k = i
    · subst e; exact ⟨hd, fun h => by omega⟩
    · exact h3 k (by omega) hk2
theorem BestI.takes {now : Nat} {l : List Pk} {i : Nat} {j : Int} (h : BestI now l i j) (hd : (pat l i).due ≤ now) (hj : j = -1 ∨ ∃ m : Nat, j = m ∧ (pat l i).due < (pat l m).due) : BestI now l (i + 1) i := by
  refine .inr ⟨i, rfl, by omega, hd, fun k hk hk2 => ?_⟩
  by_cases e : k = i
  · subst e; exact ⟨by omega, fun h => by omega⟩
  · rcases h with ⟨rfl, h⟩ | ⟨m, rfl, h1, h2, h3⟩
    · have := h k (by omega); omega
    · rcases hj with hj | ⟨m', hj, hd2⟩
      · omega
      · obtain rfl : m = m' := by omega
        have := h3 k (by omega) hk2
        exact ⟨by omega, fun _ => by omega⟩
theorem BestI.none {now : Nat} {l : List Pk} (h : BestI now l l.length (-1)) : ∀ q ∈ l, (now : Int) < q.due := by
  rcases h with ⟨_, h⟩ | ⟨m, h, _⟩
  · intro q hq
    obtain ⟨k, hk, rfl⟩ := List.mem_iff_getElem.1 hq
    have := h k hk
    rwa [pat_lt hk] at this
  · omega
theorem BestI.min {now : Nat} {l : List Pk} {m : Nat} (h : BestI now l l.length m) (hr : l.Pairwise (fun p q => p.id < q.id)) : m < l.length ∧ (pat l m).due ≤ now ∧ ∀ q ∈ l, leP (pat l m) q := by
  rcases h with ⟨h, _⟩ | ⟨m', e, h1, h2, h3⟩
  · omega
  · obtain rfl : m' = m := by omega
    refine ⟨h1, h2, fun q hq => ?_⟩
    obtain ⟨k, hk, rfl⟩ := List.mem_iff_getElem.1 hq
    rw [← pat_lt hk]
    unfold leP ltP
    by_cases hd : (pat l k).due ≤ now
    · have h4 := h3 k hk hd
      by_cases hkm : k < m'
      · have := h4.2 hkm; omega
      · have h5 : m' < k → (pat l m').id < (pat l k).id := fun hmk => by
          rw [pat_lt hk, pat_lt h1]
          exact List.pairwise_iff_getElem.1 hr m' k h1 hk hmk
        by_cases hmk : m' < k
        · have := h5 hmk; omega
        · obtain rfl : m' = k := by omega
          omega
    · omega
end Go.Proofs.Ytjopbglimjhefaa
