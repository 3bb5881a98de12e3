/- Match: what keys say, its closure that calls itself, walked. -/
import Derived.Test.YtmlmkcpdgcojlaaDoorMaC
namespace Go.Proofs.YtmlmkcpdgcojlaaDoor
open Go.RowKit

def allI (g : Nat → Bool × Nat) : Nat → Bool → Nat → Bool × Nat
  | 0, acc, j => (acc, j)
  | n + 1, acc, j => allI g n ((g j).1 && acc) (g j).2
/-- what the key at place i says, and the place behind it -/
def saysI (ks : List KeyD) (lf : KeyD → Bool) : Nat → Nat → Bool × Nat
  | 0, i => (false, i)
  | f + 1, i => match ks[i]? with
    | none => (false, i)
    | some k => if k.kind = 1 then allI (saysI ks lf f) k.kids.toNat true (i + 1)
      else if k.kind = 2 then (!(saysI ks lf f (i + 1)).1, (saysI ks lf f (i + 1)).2)
      else if k.kind = 3 then ((saysI ks lf f (saysI ks lf f (i + 1)).2).1 || (saysI ks lf f (i + 1)).1, (saysI ks lf f (saysI ks lf f (i + 1)).2).2)
      else (lf k, i + 1)
theorem allI_idx {g : Nat → Bool × Nat} {h : Nat → Option Nat} (hg : ∀ j j', h j = some j' → (g j).2 = j') : ∀ (n : Nat) (acc : Bool) (j J : Nat), manyI h n j = some J → (allI g n acc j).2 = J
  | 0, acc, j, J, e => Option.some.inj e
  | n + 1, acc, j, J, e => by
    rw [manyI] at e
    cases hc : h j with
    | none => rw [hc] at e; cases e
    | some q =>
      rw [hc] at e
      rw [allI, hg j q hc]
      exact allI_idx hg n _ q J e
theorem manyI_succ {g : Nat → Option Nat} {n j J : Nat} (h : manyI g (n + 1) j = some J) : ∃ q, g j = some q ∧ manyI g n q = some J := by
  rw [manyI] at h
  cases hc : g j with
  | none => rw [hc] at h; cases h
  | some q => rw [hc] at h; exact ⟨q, rfl, h⟩
theorem one_split {ks : List KeyD} {f i d J : Nat} (h : oneI ks (f + 1) i d = some J) : ∃ (hi : i < ks.length), 0 ≤ kidsL ks[i] ∧ ¬ (0 < kidsL ks[i] ∧ 8 < d) ∧ manyI (fun j => oneI ks f j (d + 1)) (kidsL ks[i]).toNat (i + 1) = some J := by
  rw [oneI] at h
  cases hk : ks[i]? with
  | none => rw [hk] at h; cases h
  | some k =>
    rw [hk] at h
    have hi : i < ks.length := (List.getElem?_eq_some_iff.1 hk).1
    have e : ks[i] = k := (List.getElem?_eq_some_iff.1 hk).2
    dsimp only at h
    refine ⟨hi, ?_⟩
    rw [e]
    split at h
    · cases h
    · rename_i h8
      split at h
      · cases h
      · exact ⟨by omega, h8, h⟩
theorem says_idx (ks : List KeyD) (lf : KeyD → Bool) : ∀ (f i d J : Nat), oneI ks f i d = some J → (saysI ks lf f i).2 = J
  | 0, i, d, J, h => by cases h
  | f + 1, i, d, J, h => by
    obtain ⟨hi, h0, h8, hm⟩ := one_split h
    have hg : ∀ j j', oneI ks f j (d + 1) = some j' → (saysI ks lf f j).2 = j' := fun j j' => says_idx ks lf f j (d + 1) j'
    rw [saysI, List.getElem?_eq_getElem hi]
    dsimp only
    by_cases h1 : ks[i].kind = 1
    · rw [if_pos h1]
      have hk : kidsL ks[i] = ks[i].kids := by
        unfold kidsL at h0 ⊢
        split
        · rfl
        · rename_i hn
          rw [if_neg hn] at h0
          rw [if_neg (by omega), if_neg (by omega), if_neg (by omega)] at h0
          omega
      rw [hk] at hm
      exact allI_idx hg _ _ _ _ hm
    · rw [if_neg h1]
      by_cases h2 : ks[i].kind = 2
      · rw [if_pos h2]
        have hk : kidsL ks[i] = 1 := by unfold kidsL; rw [if_neg (by omega), if_pos h2]
        rw [hk] at hm
        obtain ⟨q, hq, hm⟩ := manyI_succ (n := 0) hm
        have : q = J := Option.some.inj hm
        rw [← this]; exact hg _ _ hq
      · rw [if_neg h2]
        by_cases h3 : ks[i].kind = 3
        · rw [if_pos h3]
          have hk : kidsL ks[i] = 2 := by unfold kidsL; rw [if_neg (by omega), if_neg h2, if_pos h3]
          rw [hk] at hm
          obtain ⟨q, hq, hm⟩ := manyI_succ (n := 1) hm
          obtain ⟨q2, hq2, hm⟩ := manyI_succ (n := 0) hm
          have : q2 = J := Option.some.inj hm
          show (saysI ks lf f (saysI ks lf f (i + 1)).2).2 = J
          rw [hg _ _ hq, ← this]; exact hg _ _ hq2
        · rw [if_neg h3]
          have hk : kidsL ks[i] = 0 := by
            unfold kidsL at h0 ⊢
            rw [if_neg (by omega), if_neg h2, if_neg h3] at h0 ⊢
            split
            · rfl
            · rename_i hn
              rw [if_neg hn] at h0
              omega
          rw [hk] at hm
          exact Option.some.inj hm
end Go.Proofs.YtmlmkcpdgcojlaaDoor
