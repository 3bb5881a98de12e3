/- The same request again: plain. The same request again, whole: plain. -/
import Derived.Test.YtdobbfjmlnlieaaGreatB20
namespace Go.Proofs.YtdobbfjmlnlieaaGreat
set_option linter.unusedSimpArgs false
open Go.RowKit

def seatI (m : Ml) (s : Nat) : Option Nat := m.seats.findIdx? (fun x => x.session == s)
/-- the session was there, and its seat is gone or has come as far as n -/
def Past (m : Ml) (s n : Nat) : Prop := s < m.ns ∧ ∀ x ∈ m.seats, x.session = s → n ≤ x.last
theorem Past.of {m m' : Ml} {s n : Nat} (h : Past m s n) (hn : m.ns ≤ m'.ns) (hs : ∀ x ∈ m'.seats, x.session = s → ∃ y ∈ m.seats, y.session = s ∧ y.last ≤ x.last) : Past m' s n :=
  ⟨by have := h.1; omega, fun x hx he => by
    obtain ⟨y, hy, e, hl⟩ := hs x hx he
    have := h.2 y hy e
    omega⟩
theorem Past.same {m m' : Ml} {s n : Nat} (h : Past m s n) (hn : m'.ns = m.ns) (hs : m'.seats = m.seats) : Past m' s n := h.of (Nat.le_of_eq hn.symm) (fun x hx he => ⟨x, by rw [← hs]; exact hx, he, Nat.le_refl _⟩)
theorem open_past {m : Ml} {q : Rq} {o : Oc} {s n : Nat} (h : Past m s n) : Past (openM m q o).2.1 s n := by
  unfold openM
  split
  · exact h
  split
  · exact h
  split
  · split <;> exact h
  split
  · exact h
  · have hsub : (seatsO m q).Sublist m.seats := by
      unfold seatsO
      split
      · exact List.filter_sublist
      · exact List.Sublist.refl _
    have key : ∀ (M : Ml), M.ns = m.ns + 1 → M.seats = seatsO m q ++ [⟨m.ns, 0, q.node, q.life, q.try_⟩] → Past M s n := fun M e1 e2 => h.of (by omega) (fun x hx he => by
      rw [e2] at hx
      rcases List.mem_append.1 hx with hx | hx
      · exact ⟨x, hsub.subset hx, he, Nat.le_refl _⟩
      · rw [List.mem_singleton.1 hx] at he
        have h1 := h.1
        have h2 : m.ns = s := he
        omega)
    dsimp only
    unfold settleM
    split
    · exact key _ rfl rfl
    · exact key _ rfl rfl
theorem setM_past {m : Ml} {i : Nat} {b : Bx} {s n : Nat} (h : Past m s n) : Past (setM m i b) s n := h.same rfl rfl
theorem append_past {m : Ml} {q : Rq} {o : Oc} {s n : Nat} (h : Past m s n) : Past (appendM m q o).2.1 s n := by
  unfold appendM
  split
  · exact h
  split
  · exact h
  split
  · exact h
  split
  · exact h
  split
  · exact h
  split
  · exact h
  · exact setM_past h
theorem store_past {m : Ml} {q : Rq} {o : Oc} {s n : Nat} (h : Past m s n) : Past (storeM m q o).2.1 s n := by
  unfold storeM
  split
  · exact h
  split
  · exact h
  split
  · exact h
  split
  · exact h
  split
  · exact h
  split
  · exact h
  · exact setM_past h
theorem expunge_past {m : Ml} {q : Rq} {o : Oc} {s n : Nat} (h : Past m s n) : Past (expungeM m q o).2.1 s n := by
  unfold expungeM
  split
  · exact h
  split
  · exact h
  split
  · exact h
  split
  · exact h
  · exact setM_past h
theorem copy_past {m : Ml} {q : Rq} {o : Oc} {s n : Nat} (h : Past m s n) : Past (copyM m q o).2.1 s n := by
  unfold copyM
  split
  · exact h
  split
  · exact h
  split
  · exact h
  split
  · exact h
  split
  · exact h
  split
  · exact h
  split
  · exact h
  · exact setM_past h
theorem create_past {m : Ml} {q : Rq} {o : Oc} {s n : Nat} (h : Past m s n) : Past (createM m q o).2.1 s n := by
  unfold createM
  split
  · exact h
  split
  · exact h
  split
  · exact h
  split
  · exact h
  · exact h.same rfl rfl
theorem remove_past {m : Ml} {q : Rq} {o : Oc} {s n : Nat} (h : Past m s n) : Past (removeM m q o).2.1 s n := by
  unfold removeM
  split
  · exact h
  split
  · exact h
  · exact h.same rfl rfl
theorem end_past {m : Ml} {q : Rq} {o : Oc} {s n : Nat} (h : Past m s n) : Past (endM m q o).2.1 s n := h.of (Nat.le_refl _) (fun x hx he => ⟨x, (List.mem_filter.1 hx).1, he, Nat.le_refl _⟩)
theorem sweep_past {m : Ml} {q : Rq} {o : Oc} {s n : Nat} (h : Past m s n) : Past (sweepM m q o).2.1 s n := by
  unfold sweepM
  split
  · exact h
  · exact h.same rfl rfl
theorem does_past {m : Ml} {q : Rq} {s n : Nat} (h : Past m s n) : Past (doesM m q).2.1 s n := by
  unfold doesM
  split
  · exact open_past h
  split
  · exact end_past h
  split
  · exact h
  split
  · exact create_past h
  split
  · exact remove_past h
  split
  · exact append_past h
  split
  · exact store_past h
  split
  · exact expunge_past h
  split
  · exact copy_past h
  · exact sweep_past h
/-- a seat's Last is put to a number that is greater -/
theorem put_past {m : Ml} {i k s n : Nat} (h : Past m s n) (hk : ((m.seats[i]?).map St.last).getD 0 ≤ k) : Past (seatPut m i k) s n := by
  refine h.of (Nat.le_refl _) (fun x hx he => ?_)
  have hx' : x ∈ m.seats.modify i (fun x => { x with last := k }) := hx
  obtain ⟨j, hj, rfl⟩ := List.mem_iff_getElem.1 hx'
  rw [List.length_modify] at hj
  rw [List.getElem_modify] at he ⊢
  refine ⟨m.seats[j], List.getElem_mem hj, ?_, ?_⟩
  · split at he <;> exact he
  · split
    · rename_i e
      subst e
      rw [List.getElem?_eq_getElem hj] at hk
      exact hk
    · exact Nat.le_refl _
theorem apply_past {m : Ml} (q : Rq) {s n : Nat} (h : Past m s n) : Past (applyM m q).1 s n := by
  unfold applyM
  split
  · exact h
  split
  · rw [fin_fst]; exact does_past h
  split
  · exact h
  · split
    · exact h
    · rename_i hlt
      rw [fin_fst]; exact does_past (put_past h (by omega))
/-- behind a request that is not refused for its seat, the session is past it -/
theorem apply_then {m : Ml} (q : Rq) (hr : RightP m) (hop : ¬ (q.op < 1 ∨ 9 < q.op ∨ 64 < q.uids.length)) (h1 : q.op ≠ 1) (hc : (applyM m q).2.code ≠ 16) : Past (applyM m q).1 q.session q.number := by
  unfold applyM at hc ⊢
  rw [if_neg (by omega), if_neg (by omega)] at hc ⊢
  have hses : ∀ {i : Nat}, m.seats.findIdx? (fun x => x.session == q.session) = some i → ∃ hi : i < m.seats.length, m.seats[i].session = q.session := fun hf => by
    obtain ⟨hl, he, -⟩ := List.findIdx?_eq_some_iff_getElem.1 hf
    exact ⟨hl, eq_of_beq he⟩
  have huniq : ∀ {i : Nat} (hi : i < m.seats.length), m.seats[i].session = q.session → ∀ (j : Nat) (hj : j < m.seats.length), m.seats[j].session = q.session → j = i := fun {i} hi e j hj e2 => by
    rcases Nat.lt_trichotomy i j with h3 | h3 | h3
    · have := List.pairwise_iff_getElem.1 hr.seated.sup i j hi hj h3; omega
    · exact h3.symm
    · have := List.pairwise_iff_getElem.1 hr.seated.sup j i hj hi h3; omega
  cases hf : m.seats.findIdx? (fun x => x.session == q.session) with
  | none => rw [hf] at hc; exact absurd rfl hc
  | some i =>
    obtain ⟨hi, he⟩ := hses hf
    have hns := (hr.seated.seats _ (List.getElem_mem hi)).s2
    rw [he] at hns
    dsimp only
    by_cases hle : q.number ≤ ((m.seats[i]?).map St.last).getD 0
    · rw [if_pos hle]
      rw [List.getElem?_eq_getElem hi] at hle
      refine ⟨hns, fun x hx hxe => ?_⟩
      obtain ⟨j, hj, rfl⟩ := List.mem_iff_getElem.1 hx
      obtain rfl := huniq hi he j hj hxe
      exact hle
    · rw [if_neg hle, fin_fst]
      refine does_past ⟨hns, fun x hx hxe => ?_⟩
      have hx' : x ∈ m.seats.modify i (fun x => { x with last := q.number }) := hx
      obtain ⟨j, hj, rfl⟩ := List.mem_iff_getElem.1 hx'
      rw [List.length_modify] at hj
      rw [List.getElem_modify] at hxe ⊢
      by_cases e : i = j
      · subst e; rw [if_pos rfl]; exact Nat.le_refl _
      · rw [if_neg e] at hxe
        exact absurd (huniq hi he j hj hxe).symm e
/-- .. and the same request again is refused -/
theorem past_again {m : Ml} (q : Rq) (hop : ¬ (q.op < 1 ∨ 9 < q.op ∨ 64 < q.uids.length)) (h1 : q.op ≠ 1) (h : Past m q.session q.number) : (applyM m q).1 = m ∧ ((applyM m q).2.code = 14 ∨ (applyM m q).2.code = 16) := by
  unfold applyM
  rw [if_neg (by omega), if_neg (by omega)]
  cases hf : m.seats.findIdx? (fun x => x.session == q.session) with
  | none => exact ⟨rfl, .inr rfl⟩
  | some i =>
    obtain ⟨hi, he, -⟩ := List.findIdx?_eq_some_iff_getElem.1 hf
    have hl := h.2 _ (List.getElem_mem hi) (eq_of_beq he)
    dsimp only
    rw [if_pos (by rw [List.getElem?_eq_getElem hi]; exact hl)]
    exact ⟨rfl, .inl rfl⟩
theorem createM_code (m : Ml) (q : Rq) (o : Oc) : (createM m q o).1 ≠ 14 ∧ (createM m q o).1 ≠ 16 := by
  unfold createM
  repeat' split
  all_goals exact ⟨by dsimp only; decide, by dsimp only; decide⟩
theorem removeM_code (m : Ml) (q : Rq) (o : Oc) : (removeM m q o).1 ≠ 14 ∧ (removeM m q o).1 ≠ 16 := by
  unfold removeM
  repeat' split
  all_goals exact ⟨by dsimp only; decide, by dsimp only; decide⟩
theorem appendM_code (m : Ml) (q : Rq) (o : Oc) : (appendM m q o).1 ≠ 14 ∧ (appendM m q o).1 ≠ 16 := by
  unfold appendM
  repeat' split
  all_goals exact ⟨by dsimp only; decide, by dsimp only; decide⟩
theorem storeM_code (m : Ml) (q : Rq) (o : Oc) : (storeM m q o).1 ≠ 14 ∧ (storeM m q o).1 ≠ 16 := by
  unfold storeM
  repeat' split
  all_goals exact ⟨by dsimp only; decide, by dsimp only; decide⟩
theorem expungeM_code (m : Ml) (q : Rq) (o : Oc) : (expungeM m q o).1 ≠ 14 ∧ (expungeM m q o).1 ≠ 16 := by
  unfold expungeM
  repeat' split
  all_goals exact ⟨by dsimp only; decide, by dsimp only; decide⟩
theorem copyM_code (m : Ml) (q : Rq) (o : Oc) : (copyM m q o).1 ≠ 14 ∧ (copyM m q o).1 ≠ 16 := by
  unfold copyM
  repeat' split
  all_goals exact ⟨by dsimp only; decide, by dsimp only; decide⟩
theorem fin_code {r : Int × Ml × Oc} {n : Int} (hn : n ≠ 0) (ho : r.1 = 0 → r.2.2.code = 0) (h : r.1 ≠ n) : (finM r).2.code ≠ n := by
  unfold finM
  by_cases e : r.1 = 0
  · rw [if_pos e]; show r.2.2.code ≠ n; rw [ho e]; exact hn.symm
  · rw [if_neg e]; exact h
end Go.Proofs.YtdobbfjmlnlieaaGreat
namespace Go.Proofs.YtdobbfjmlnlieaaGreat
set_option linter.unusedSimpArgs false
open Go.RowKit

theorem fin_eq (n : Int) (m : Ml) (o : Oc) : finM (n, m, o) = (m, (finM (n, m, o)).2) := Prod.ext (fin_fst _) rfl
/-- opening again gives the same -/
theorem open_again {m : Ml} (q : Rq) (hr : RightP m) : finM (openM (finM (openM m q oc0)).1 q oc0) = finM (openM m q oc0) := by
  have hr2 := open_right (q := q) (o := oc0) hr
  by_cases hsame : (openM m q oc0).2.1 = m
  · rw [fin_fst, hsame]
  have hst : ∃ M : Ml, openM m q oc0 = (0, M, { oc0 with session := m.ns }) ∧ M.seats = seatsO m q ++ [⟨m.ns, 0, q.node, q.life, q.try_⟩] ∧ (⟨q.node, q.life, q.try_⟩ : Hm) ∈ M.homes ∧ ¬ (q.node < 1 ∨ 5 < q.node ∨ q.life = 0 ∨ q.try_ = 0) := by
    unfold openM at hsame ⊢
    split at hsame
    · exact absurd rfl hsame
    rename_i h1
    split at hsame
    · exact absurd rfl hsame
    rename_i h2
    split at hsame
    · split at hsame
      · exact absurd rfl hsame
      · exact absurd rfl hsame
    rename_i h3
    split at hsame
    · exact absurd rfl hsame
    rename_i h4
    rw [if_neg h1, if_neg h2, if_neg h3, if_neg h4]
    refine ⟨_, rfl, ?_, ?_, h1⟩
    · unfold settleM
      split <;> rfl
    · have hH : HomeP ⟨q.node, q.life, q.try_⟩ := ⟨by show 1 ≤ q.node; omega, by show q.node ≤ 5; omega, fun h => h1 (.inr (.inr (.inl h))), fun h => h1 (.inr (.inr (.inr h)))⟩
      have h5 := (settle_homes hr.seated q ⟨q.node, q.life, q.try_⟩ rfl _ rfl hH).2.2.1
      unfold settleM at h5 ⊢
      split
      · rename_i h6; rw [if_pos h6] at h5; exact h5
      · rename_i h6; rw [if_neg h6] at h5; exact h5
  obtain ⟨M, e, hs, hh, h1⟩ := hst
  rw [e] at hr2 ⊢
  have hf0 : finM (0, M, ({ oc0 with session := m.ns } : Oc)) = (M, { oc0 with session := m.ns }) := rfl
  rw [hf0]
  dsimp only at hr2 ⊢
  have hho : homeOf M q.node = ⟨q.node, q.life, q.try_⟩ := home_found hr2.seated hh
  have hfind : M.seats.find? (fun x => x.node == q.node && x.try_ == q.try_) = some ⟨m.ns, 0, q.node, q.life, q.try_⟩ := by
    rw [hs, List.find?_append]
    have hno : (seatsO m q).find? (fun x => x.node == q.node && x.try_ == q.try_) = none := by
      rw [List.find?_eq_none]
      intro x hx hp
      have ht := hr2.seated.twin
      rw [hs] at ht
      have := (List.pairwise_append.1 ht).2.2 x hx ⟨m.ns, 0, q.node, q.life, q.try_⟩ (List.mem_singleton.2 rfl)
      rw [Bool.and_eq_true] at hp
      exact this ⟨eq_of_beq hp.1, eq_of_beq hp.2⟩
    rw [hno]
    simp
  have : openM M q oc0 = (0, M, { oc0 with session := m.ns }) := by
    unfold openM
    rw [if_neg h1, hho]
    dsimp only
    rw [if_neg (Nat.lt_irrefl _), if_pos ⟨rfl, Nat.le_refl _⟩, hfind]
  rw [this]
  exact hf0
theorem once_open {m : Ml} (q : Rq) (hr : RightP m) (h1 : q.op = 1) (hl : ¬ 64 < q.uids.length) : applyM (applyM m q).1 q = applyM m q := by
  have key : ∀ M, applyM M q = finM (openM M q oc0) := fun M => by
    unfold applyM doesM
    rw [if_neg (by omega), if_pos (.inl h1), if_pos h1]
  rw [key m, key]
  exact open_again q hr
theorem once_bad {m : Ml} (q : Rq) (h : q.op < 1 ∨ 9 < q.op ∨ 64 < q.uids.length) : (q.op = 10 ∧ ((applyM m q).2.code = 0 ∨ (applyM m q).2.code = 13)) ∨ (applyM m q).2.code = 1 := by
  by_cases h2 : q.op < 1 ∨ 11 ≤ q.op ∨ 64 < q.uids.length
  · right
    unfold applyM
    rw [if_pos h2]
    rfl
  · left
    have h10 : q.op = 10 := by omega
    refine ⟨h10, ?_⟩
    unfold applyM doesM
    rw [if_neg h2, if_pos (.inr h10), if_neg (by omega), if_neg (by omega), if_neg (by omega), if_neg (by omega), if_neg (by omega), if_neg (by omega), if_neg (by omega), if_neg (by omega), if_neg (by omega)]
    unfold sweepM
    split
    · exact .inr rfl
    · exact .inl rfl
theorem doc_code {r : Int × Ml × Oc} (h : r.1 = 0 → r.2.2.code = 0) (h1 : r.1 ≠ 14) (h2 : r.1 ≠ 16) : (finM r).2.code ≠ 14 ∧ (finM r).2.code ≠ 16 := ⟨fin_code (by decide) h h1, fin_code (by decide) h h2⟩
theorem code_create (m : Ml) (q : Rq) : (createM m q oc0).1 = 0 → (createM m q oc0).2.2.code = 0 := by
  unfold createM
  repeat' split
  all_goals (intro _; rfl)
theorem code_remove (m : Ml) (q : Rq) : (removeM m q oc0).1 = 0 → (removeM m q oc0).2.2.code = 0 := by
  unfold removeM
  repeat' split
  all_goals (intro _; rfl)
theorem code_append (m : Ml) (q : Rq) : (appendM m q oc0).1 = 0 → (appendM m q oc0).2.2.code = 0 := by
  unfold appendM
  repeat' split
  all_goals (intro _; rfl)
theorem code_store (m : Ml) (q : Rq) : (storeM m q oc0).1 = 0 → (storeM m q oc0).2.2.code = 0 := by
  unfold storeM
  repeat' split
  all_goals (intro _; rfl)
theorem code_expunge (m : Ml) (q : Rq) : (expungeM m q oc0).1 = 0 → (expungeM m q oc0).2.2.code = 0 := by
  unfold expungeM
  repeat' split
  all_goals (intro _; rfl)
theorem code_copy (m : Ml) (q : Rq) : (copyM m q oc0).1 = 0 → (copyM m q oc0).2.2.code = 0 := by
  unfold copyM
  repeat' split
  all_goals (intro _; rfl)
theorem does_code {m : Ml} {q : Rq} (h1 : q.op ≠ 1) (h10 : q.op ≤ 9) (h0 : 1 ≤ q.op) : (finM (doesM m q)).2.code ≠ 14 ∧ (finM (doesM m q)).2.code ≠ 16 := by
  unfold doesM
  rw [if_neg h1]
  split
  · exact doc_code (fun _ => rfl) (by unfold endM; dsimp only; decide) (by unfold endM; dsimp only; decide)
  split
  · exact doc_code (fun _ => rfl) (by unfold lookM; dsimp only; decide) (by unfold lookM; dsimp only; decide)
  split
  · exact doc_code (code_create m q) (createM_code m q oc0).1 (createM_code m q oc0).2
  split
  · exact doc_code (code_remove m q) (removeM_code m q oc0).1 (removeM_code m q oc0).2
  split
  · exact doc_code (code_append m q) (appendM_code m q oc0).1 (appendM_code m q oc0).2
  split
  · exact doc_code (code_store m q) (storeM_code m q oc0).1 (storeM_code m q oc0).2
  split
  · exact doc_code (code_expunge m q) (expungeM_code m q oc0).1 (expungeM_code m q oc0).2
  split
  · exact doc_code (code_copy m q) (copyM_code m q oc0).1 (copyM_code m q oc0).2
  · omega
/-- what is late has changed nothing -/
theorem late_same {m : Ml} (q : Rq) (hop : ¬ (q.op < 1 ∨ 9 < q.op ∨ 64 < q.uids.length)) (h1 : q.op ≠ 1) (hl : (applyM m q).2.code = 14 ∨ (applyM m q).2.code = 16) : (applyM m q).1 = m := by
  unfold applyM at hl ⊢
  rw [if_neg (by omega), if_neg (by omega)] at hl ⊢
  cases hf : m.seats.findIdx? (fun x => x.session == q.session) with
  | none => rfl
  | some i =>
    rw [hf] at hl
    dsimp only at hl ⊢
    by_cases hle : q.number ≤ ((m.seats[i]?).map St.last).getD 0
    · rw [if_pos hle]
    · rw [if_neg hle] at hl
      have := does_code (m := seatPut m i q.number) (q := q) h1 (by omega) (by omega)
      rcases hl with h | h
      · exact absurd h this.1
      · exact absurd h this.2
end Go.Proofs.YtdobbfjmlnlieaaGreat
