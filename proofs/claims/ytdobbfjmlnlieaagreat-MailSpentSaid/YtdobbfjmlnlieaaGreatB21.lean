/- The document's answer whether homes and seats may be: walked. (written by tools/gen_MmN.py) The document's answer which states are right: walked. (written by tools/gen_MmO.py) -/
import Derived.Test.YtdobbfjmlnlieaaGreatB20
namespace Go.Proofs.YtdobbfjmlnlieaaGreat
set_option linter.unusedSimpArgs false
open Go.RowKit
attribute [local go_sem ↓] Go.wp_at_zero Go.wp_at_succ

/-- homes that rise so far -/
def HUp (l : List Hm) (j : Nat) (nd : Int) : Prop := (∀ x ∈ l.take j, HomeP x) ∧ (l.take j).Pairwise (fun x y => x.node < y.node) ∧ (∀ x ∈ l.take j, x.node ≤ nd) ∧ 0 ≤ nd ∧ (nd = 0 ∨ ∃ (k : Nat) (h : k < l.length), k < j ∧ l[k].node = nd)
theorem HUp.step {l : List Hm} {j : Nat} {nd : Int} (h : HUp l j nd) (hj : j < l.length) (hp : HomeP l[j]) (hl : nd < l[j].node) : HUp l (j + 1) l[j].node := by
  unfold HUp
  rw [List.take_succ_eq_append_getElem hj]
  refine ⟨fun x hx => ?_, ?_, fun x hx => ?_, by have := h.2.2.2.1; omega, .inr ⟨j, hj, by omega, rfl⟩⟩
  · rcases List.mem_append.1 hx with hx | hx
    · exact h.1 x hx
    · rw [List.mem_singleton.1 hx]; exact hp
  · refine List.pairwise_append.2 ⟨h.2.1, by simp, fun x hx y hy => ?_⟩
    rw [List.mem_singleton.1 hy]
    have := h.2.2.1 x hx
    omega
  · rcases List.mem_append.1 hx with hx | hx
    · have := h.2.2.1 x hx; omega
    · rw [List.mem_singleton.1 hx]; exact Int.le_refl _
/-- seats that rise so far -/
def SUp (m : Ml) (l : List St) (j : Nat) (last : Nat) : Prop := (∀ x ∈ l.take j, SeatP m x) ∧ (l.take j).Pairwise (fun x y => x.session < y.session) ∧ (l.take j).Pairwise (fun x y => ¬ (x.node = y.node ∧ x.try_ = y.try_)) ∧ (∀ x ∈ l.take j, x.session ≤ last) ∧ (last = 0 ∨ ∃ (k : Nat) (h : k < l.length), k < j ∧ l[k].session = last)
theorem SUp.step {m : Ml} {l : List St} {j : Nat} {nd : Nat} (h : SUp m l j nd) (hj : j < l.length) (hp : SeatP m l[j]) (hl : nd < l[j].session) (ht : ∀ k (hk : k < l.length), k < j → ¬ (l[k].node = l[j].node ∧ l[k].try_ = l[j].try_)) : SUp m l (j + 1) l[j].session := by
  unfold SUp
  rw [List.take_succ_eq_append_getElem hj]
  refine ⟨fun x hx => ?_, ?_, ?_, fun x hx => ?_, .inr ⟨j, hj, by omega, rfl⟩⟩
  · rcases List.mem_append.1 hx with hx | hx
    · exact h.1 x hx
    · rw [List.mem_singleton.1 hx]; exact hp
  · refine List.pairwise_append.2 ⟨h.2.1, by simp, fun x hx y hy => ?_⟩
    rw [List.mem_singleton.1 hy]
    have := h.2.2.2.1 x hx
    omega
  · refine List.pairwise_append.2 ⟨h.2.2.1, by simp, fun x hx y hy => ?_⟩
    rw [List.mem_singleton.1 hy]
    obtain ⟨k, hk, rfl⟩ := List.mem_iff_getElem.1 hx
    rw [List.length_take] at hk
    rw [List.getElem_take]
    exact ht k (by omega) (by omega)
  · rcases List.mem_append.1 hx with hx | hx
    · have := h.2.2.2.1 x hx; omega
    · rw [List.mem_singleton.1 hx]; exact Nat.le_refl _
end Go.Proofs.YtdobbfjmlnlieaaGreat
namespace Go.Proofs.YtdobbfjmlnlieaaGreat
set_option linter.unusedSimpArgs false
open Go.RowKit
attribute [local go_sem ↓] Go.wp_at_zero Go.wp_at_succ

def isInbox (b : Bx) : Bool := b.name.data.toList == inboxL
/-- mailboxes that rise so far -/
structure BUp (m : Ml) (i cnt : Nat) : Prop where
  bx : ∀ b ∈ m.boxes.take i, BoxP b m.nv
  nm : (m.boxes.take i).Pairwise (fun x y => bxltB x y = true)
  vl : (m.boxes.take i).Pairwise (fun x y => x.validity ≠ y.validity)
  cn : cnt = ((m.boxes.take i).filter isInbox).length
theorem BUp.step {m : Ml} {i cnt : Nat} (h : BUp m i cnt) (hi : i < m.boxes.length) (hb : BoxP m.boxes[i] m.nv) (hk : ∀ k (hk : k < m.boxes.length), k < i → bxltB m.boxes[k] m.boxes[i] = true ∧ m.boxes[k].validity ≠ m.boxes[i].validity) : BUp m (i + 1) (cnt + if isInbox m.boxes[i] then 1 else 0) := by
  have e := List.take_succ_eq_append_getElem hi
  refine ⟨fun x hx => ?_, ?_, ?_, ?_⟩
  · rw [e] at hx
    rcases List.mem_append.1 hx with hx | hx
    · exact h.bx x hx
    · rw [List.mem_singleton.1 hx]; exact hb
  · rw [e]
    refine List.pairwise_append.2 ⟨h.nm, by simp, fun x hx y hy => ?_⟩
    rw [List.mem_singleton.1 hy]
    obtain ⟨k, hk', rfl⟩ := List.mem_iff_getElem.1 hx
    rw [List.length_take] at hk'
    rw [List.getElem_take]
    exact (hk k (by omega) (by omega)).1
  · rw [e]
    refine List.pairwise_append.2 ⟨h.vl, by simp, fun x hx y hy => ?_⟩
    rw [List.mem_singleton.1 hy]
    obtain ⟨k, hk', rfl⟩ := List.mem_iff_getElem.1 hx
    rw [List.length_take] at hk'
    rw [List.getElem_take]
    exact (hk k (by omega) (by omega)).2
  · rw [e, List.filter_append, List.length_append, ← h.cn]
    congr 1
    cases hb : isInbox m.boxes[i] <;> simp [hb]
/-- what a state may have that is asked whether it is right -/
structure AskSz (m : Ml) : Prop where
  sz : Sized1 m
  nm : ∀ b ∈ m.boxes, b.name.size ≤ maxLen
  fs : ∀ b ∈ m.boxes, ∀ x ∈ b.letters, Sized x.flags
end Go.Proofs.YtdobbfjmlnlieaaGreat
