/- What keys say, in plain lists: of any bytes that aren't asked for; NOT, OR, AND. -/
import Derived.Test.YtmlmkcpdgcojlaaDoorMaK
namespace Go.Proofs.YtmlmkcpdgcojlaaDoor
open Go.RowKit

theorem allI_congr {g h : Nat → Bool × Nat} (hg : ∀ j, g j = h j) : ∀ (n : Nat) (acc : Bool) (j : Nat), allI g n acc j = allI h n acc j
  | 0, _, _ => rfl
  | n + 1, acc, j => by rw [allI, allI, hg j]; exact allI_congr hg n _ _
theorem says_congr (ks : List KeyD) (lf lg : KeyD → Bool) (h : ∀ k ∈ ks, lf k = lg k) : ∀ (f i : Nat), saysI ks lf f i = saysI ks lg f i
  | 0, _ => rfl
  | f + 1, i => by
    have ih := says_congr ks lf lg h f
    rw [saysI, saysI]
    cases hk : ks[i]? with
    | none => rfl
    | some k =>
      have hm : k ∈ ks := List.mem_of_getElem? hk
      dsimp only
      rw [allI_congr ih, ih (i + 1), ih, h k hm]
theorem leaf_bytes (k : KeyD) (x : LetterD) (p : PlaceD) (s t : List UInt8) (h : wantB k = false) : leafL k x p s = leafL k x p t := by
  have hk : ¬ (11 ≤ k.kind ∧ k.kind ≤ 13) := by
    intro ⟨h1, h2⟩
    rw [wantB, decide_eq_true h1, decide_eq_true h2] at h
    cases h
  rw [leafL, leafL]
  rw [if_neg (show ¬ k.kind = 11 by omega), if_neg (show ¬ k.kind = 12 by omega), if_neg (show ¬ k.kind = 13 by omega), if_neg (show ¬ k.kind = 11 by omega), if_neg (show ¬ k.kind = 12 by omega), if_neg (show ¬ k.kind = 13 by omega)]
theorem match_bytes (ks : List KeyD) (x : LetterD) (p : PlaceD) (s t : List UInt8) (h : wantsL ks = false) : matchL ks x p s = matchL ks x p t := by
  have hall : ∀ k ∈ ks, leafL k x p s = leafL k x p t := fun k hk => leaf_bytes k x p s t (by
    have := List.any_eq_false.1 h k hk
    simpa using this)
  rw [matchL, matchL, says_congr ks _ _ hall]

/-! keys put ahead, keys put behind -/
theorem manyI_map {g h : Nat → Option Nat} (c : Nat) (hg : ∀ j, h (j + c) = (g j).map (· + c)) : ∀ (n j : Nat), manyI h n (j + c) = (manyI g n j).map (· + c)
  | 0, j => rfl
  | n + 1, j => by
    rw [manyI, manyI, hg j]
    cases g j with
    | none => rfl
    | some q => exact manyI_map c hg n q
theorem one_cons (y : KeyD) (ks : List KeyD) : ∀ (f i d : Nat), oneI (y :: ks) f (i + 1) d = (oneI ks f i d).map (· + 1)
  | 0, i, d => rfl
  | f + 1, i, d => by
    rw [oneI, oneI, List.getElem?_cons_succ]
    cases hk : ks[i]? with
    | none => rfl
    | some k =>
      dsimp only
      split
      · rfl
      · split
        · rfl
        · exact manyI_map 1 (fun j => one_cons y ks f j (d + 1)) _ _
theorem one_pre : ∀ (pre ks : List KeyD) (f i d : Nat), oneI (pre ++ ks) f (i + pre.length) d = (oneI ks f i d).map (· + pre.length)
  | [], ks, f, i, d => by simp
  | y :: pre, ks, f, i, d => by
    rw [List.cons_append, List.length_cons, ← Nat.add_assoc, one_cons, one_pre pre ks f i d]
    cases oneI ks f i d with
    | none => rfl
    | some q => rfl
theorem manyI_le {g : Nat → Option Nat} (hm : ∀ j J, g j = some J → j < J) : ∀ (n j J : Nat), manyI g n j = some J → j ≤ J
  | 0, j, J, e => by have : j = J := Option.some.inj e; omega
  | n + 1, j, J, e => by
    obtain ⟨q, hq, hr⟩ := manyI_succ e
    have := hm _ _ hq
    have := manyI_le hm n _ _ hr
    omega
theorem manyI_some {g h : Nat → Option Nat} {N j0 : Nat} (hg : ∀ j J, j0 ≤ j → g j = some J → J ≤ N → h j = some J) (hm : ∀ j J, g j = some J → j < J) : ∀ (n j J : Nat), j0 ≤ j → manyI g n j = some J → J ≤ N → manyI h n j = some J
  | 0, j, J, _, e, _ => e
  | n + 1, j, J, h0, e, hJ => by
    obtain ⟨q, hq, hr⟩ := manyI_succ e
    have := manyI_le hm n _ _ hr
    have := hm _ _ hq
    rw [manyI, hg _ _ h0 hq (by omega)]
    exact manyI_some hg hm n q J (by omega) hr hJ
/-- with any fuel that is enough, at a lesser depth, with other keys behind: the same end -/
theorem one_some (ks ls : List KeyD) : ∀ (f f' i d d' J : Nat), oneI ks f i d = some J → J < f' + i → d' ≤ d → (∀ j, j < J → ls[j]? = ks[j]?) → oneI ls f' i d' = some J
  | 0, _, i, d, d', J, h, _, _, _ => by cases h
  | f + 1, 0, i, d, d', J, h, hf, _, _ => by
    have := oneI_gt ks (f + 1) i d J h
    omega
  | f + 1, f' + 1, i, d, d', J, h, hf, hd, hj => by
    have hgt := oneI_gt ks (f + 1) i d J h
    obtain ⟨hi, h0, h8, hm⟩ := one_split h
    rw [oneI, hj i hgt.1, List.getElem?_eq_getElem hi]
    dsimp only
    rw [if_neg (by omega), if_neg (by omega)]
    exact manyI_some (N := J) (j0 := i + 1) (fun j q h0 hq hle => one_some ks ls f f' j (d + 1) (d' + 1) q hq (by omega) (by omega) (fun k hk => hj k (by omega))) (fun j q hq => (oneI_gt ks f j (d + 1) q hq).1) _ _ _ (Nat.le_refl _) hm (Nat.le_refl _)
theorem kids_and {k : KeyD} (h0 : 0 ≤ kidsL k) (h1 : k.kind = 1) : kidsL k = k.kids := by
  unfold kidsL at h0 ⊢
  split
  · rfl
  · rename_i hn
    rw [if_neg hn, if_neg (by omega), if_neg (by omega), if_neg (by omega)] at h0
    omega
theorem kids_not {k : KeyD} (h : k.kind = 2) : kidsL k = 1 := by unfold kidsL; rw [if_neg (by omega), if_pos h]
theorem kids_or {k : KeyD} (h : k.kind = 3) : kidsL k = 2 := by unfold kidsL; rw [if_neg (by omega), if_neg (by omega), if_pos h]
/-- what a key says doesn't hang on the fuel, nor on what lies behind -/
theorem says_some (ks ls : List KeyD) (lf : KeyD → Bool) : ∀ (f f' i d J : Nat), oneI ks f i d = some J → J < f' + i → (∀ j, j < J → ls[j]? = ks[j]?) → saysI ls lf f' i = saysI ks lf f i
  | 0, _, i, d, J, h, _, _ => by cases h
  | f + 1, 0, i, d, J, h, hf, _ => by
    have := oneI_gt ks (f + 1) i d J h
    omega
  | f + 1, f' + 1, i, d, J, h, hf, hj => by
    have hgt := oneI_gt ks (f + 1) i d J h
    obtain ⟨hi, h0, h8, hm⟩ := one_split h
    have ih : ∀ j q, i + 1 ≤ j → oneI ks f j (d + 1) = some q → q ≤ J → saysI ls lf f' j = saysI ks lf f j := fun j q h1 hq hle => says_some ks ls lf f f' j (d + 1) q hq (by omega) (fun k hk => hj k (by omega))
    have hidx : ∀ j q, oneI ks f j (d + 1) = some q → (saysI ks lf f j).2 = q := fun j q => says_idx ks lf f j (d + 1) q
    have hlt : ∀ j q, oneI ks f j (d + 1) = some q → j < q := fun j q hq => (oneI_gt ks f j (d + 1) q hq).1
    rw [saysI, saysI, hj i hgt.1, List.getElem?_eq_getElem hi]
    dsimp only
    by_cases h1 : ks[i].kind = 1
    · rw [if_pos h1, if_pos h1]
      rw [kids_and h0 h1] at hm
      have key : ∀ n acc j q, i + 1 ≤ j → manyI (fun j => oneI ks f j (d + 1)) n j = some q → q ≤ J → allI (saysI ls lf f') n acc j = allI (saysI ks lf f) n acc j := by
        intro n
        induction n with
        | zero => intro acc j q _ _ _; rfl
        | succ n ihn =>
          intro acc j q h0 e hq
          obtain ⟨z, hz, hr⟩ := manyI_succ e
          have hzq := manyI_le hlt _ _ _ hr
          have := hlt _ _ hz
          rw [allI, allI, ih _ _ h0 hz (by omega), hidx _ _ hz]
          exact ihn _ _ _ (by omega) hr hq
      exact key _ _ _ _ (Nat.le_refl _) hm (Nat.le_refl _)
    · rw [if_neg h1, if_neg h1]
      by_cases h2 : ks[i].kind = 2
      · rw [if_pos h2, if_pos h2]
        rw [kids_not h2] at hm
        obtain ⟨q, hq, hr⟩ := manyI_succ (n := 0) hm
        have : q = J := Option.some.inj hr
        rw [ih _ _ (Nat.le_refl _) hq (by omega)]
      · rw [if_neg h2, if_neg h2]
        by_cases h3 : ks[i].kind = 3
        · rw [if_pos h3, if_pos h3]
          rw [kids_or h3] at hm
          obtain ⟨q, hq, hr⟩ := manyI_succ (n := 1) hm
          obtain ⟨q2, hq2, hr⟩ := manyI_succ (n := 0) hr
          have e2 : q2 = J := Option.some.inj hr
          have := hlt _ _ hq2
          have := hlt _ _ hq
          rw [ih _ _ (Nat.le_refl _) hq (by omega), hidx _ _ hq, ih _ _ (by omega) hq2 (by omega)]
        · rw [if_neg h3, if_neg h3]
theorem allI_map {g h : Nat → Bool × Nat} (c : Nat) (hg : ∀ j, h (j + c) = ((g j).1, (g j).2 + c)) : ∀ (n : Nat) (acc : Bool) (j : Nat), allI h n acc (j + c) = ((allI g n acc j).1, (allI g n acc j).2 + c)
  | 0, acc, j => rfl
  | n + 1, acc, j => by
    rw [allI, allI, hg j]
    exact allI_map c hg n _ _
theorem says_cons (y : KeyD) (ks : List KeyD) (lf : KeyD → Bool) : ∀ (f i : Nat), saysI (y :: ks) lf f (i + 1) = ((saysI ks lf f i).1, (saysI ks lf f i).2 + 1)
  | 0, i => rfl
  | f + 1, i => by
    have ih := says_cons y ks lf f
    rw [saysI, saysI, List.getElem?_cons_succ]
    cases hk : ks[i]? with
    | none => rfl
    | some k =>
      dsimp only
      split
      · exact allI_map 1 ih _ _ _
      · split
        · rw [ih (i + 1)]
        · split
          · rw [ih (i + 1), ih]
          · rfl
theorem says_pre (lf : KeyD → Bool) : ∀ (pre ks : List KeyD) (f i : Nat), saysI (pre ++ ks) lf f (i + pre.length) = ((saysI ks lf f i).1, (saysI ks lf f i).2 + pre.length)
  | [], ks, f, i => by simp
  | y :: pre, ks, f, i => by
    rw [List.cons_append, List.length_cons, ← Nat.add_assoc, says_cons, says_pre lf pre ks f i]
    rfl
/-- whole keys within others: what they say -/
def saysL (ks : List KeyD) (lf : KeyD → Bool) : Bool := (saysI ks lf (ks.length + 1) 0).1
theorem whole_one_ {ks : List KeyD} (h : wholeL ks = true) : oneI ks (ks.length + 1) 0 1 = some ks.length ∧ ks.length ≤ 32 := by
  rw [wholeL, Bool.and_eq_true] at h
  exact ⟨beq_iff_eq.1 h.2, of_decide_eq_true h.1⟩
theorem says_sub {ks : List KeyD} (lf : KeyD → Bool) (h : wholeL ks = true) (pre post : List KeyD) (f : Nat) (hf : ks.length < f) : saysI (pre ++ (ks ++ post)) lf f pre.length = (saysL ks lf, pre.length + ks.length) := by
  obtain ⟨h1, _⟩ := whole_one_ h
  have hpost : ∀ j, j < ks.length → (ks ++ post)[j]? = ks[j]? := fun j hj => List.getElem?_append_left hj
  have := says_pre lf pre (ks ++ post) f 0
  rw [Nat.zero_add] at this
  have hs := says_some ks (ks ++ post) lf (ks.length + 1) f 0 1 _ h1 (by omega) hpost
  rw [this, hs]
  exact Prod.ext rfl (by show (saysI ks lf (ks.length + 1) 0).2 + pre.length = pre.length + ks.length; rw [says_idx ks lf _ 0 1 _ h1]; omega)
theorem says_step1 {ls : List KeyD} {k : KeyD} {i f n : Nat} {lf : KeyD → Bool} (h : ls[i]? = some k) (hk : k.kind = 1) (hn : k.kids = n) : saysI ls lf (f + 1) i = allI (saysI ls lf f) n true (i + 1) := by
  rw [saysI, h]; dsimp only; rw [if_pos hk, hn]; rfl
theorem says_step2 {ls : List KeyD} {k : KeyD} {i f : Nat} {lf : KeyD → Bool} (h : ls[i]? = some k) (hk : k.kind = 2) : saysI ls lf (f + 1) i = (!(saysI ls lf f (i + 1)).1, (saysI ls lf f (i + 1)).2) := by
  rw [saysI, h]; dsimp only; rw [if_neg (by omega), if_pos hk]
theorem says_step3 {ls : List KeyD} {k : KeyD} {i f : Nat} {lf : KeyD → Bool} (h : ls[i]? = some k) (hk : k.kind = 3) : saysI ls lf (f + 1) i = ((saysI ls lf f (saysI ls lf f (i + 1)).2).1 || (saysI ls lf f (i + 1)).1, (saysI ls lf f (saysI ls lf f (i + 1)).2).2) := by
  rw [saysI, h]; dsimp only; rw [if_neg (by omega), if_neg (by omega), if_pos hk]
section
variable {a b : List KeyD} {lf : KeyD → Bool} {N O D : KeyD} (hN : N.kind = 2) (hO : O.kind = 3) (hD : D.kind = 1) (hD2 : D.kids = 2) (ha : wholeL a = true) (hb : wholeL b = true)
include ha hN in
theorem says_not : saysL (N :: a) lf = !saysL a lf := by
  have h1 := says_sub lf ha [N] [] (a.length + 1) (by omega)
  rw [List.append_nil] at h1
  rw [saysL, List.length_cons, says_step2 (by rfl) hN]
  show (!(saysI ([N] ++ a) lf (a.length + 1) [N].length).1) = _
  rw [h1]
include ha hb hO in
theorem says_or : saysL (O :: (a ++ b)) lf = (saysL a lf || saysL b lf) := by
  have h1 := says_sub lf ha [O] b ((a ++ b).length + 1) (by rw [List.length_append]; omega)
  have h2 := says_sub lf hb (O :: a) [] ((a ++ b).length + 1) (by rw [List.length_append]; omega)
  rw [List.append_nil] at h2
  replace h1 : saysI (O :: (a ++ b)) lf ((a ++ b).length + 1) 1 = (saysL a lf, 1 + a.length) := h1
  replace h2 : saysI (O :: (a ++ b)) lf ((a ++ b).length + 1) (a.length + 1) = (saysL b lf, a.length + 1 + b.length) := h2
  rw [saysL, List.length_cons, says_step3 (by rfl) hO, h1]
  dsimp only
  rw [Nat.add_comm 1, h2]
  exact Bool.or_comm _ _
include ha hb hD hD2 in
theorem says_and : saysL (D :: (a ++ b)) lf = (saysL a lf && saysL b lf) := by
  have h1 := says_sub lf ha [D] b ((a ++ b).length + 1) (by rw [List.length_append]; omega)
  have h2 := says_sub lf hb (D :: a) [] ((a ++ b).length + 1) (by rw [List.length_append]; omega)
  rw [List.append_nil] at h2
  replace h1 : saysI (D :: (a ++ b)) lf ((a ++ b).length + 1) 1 = (saysL a lf, 1 + a.length) := h1
  replace h2 : saysI (D :: (a ++ b)) lf ((a ++ b).length + 1) (a.length + 1) = (saysL b lf, a.length + 1 + b.length) := h2
  rw [saysL, List.length_cons, says_step1 (n := 2) (by rfl) hD hD2, allI, h1, allI]
  dsimp only
  rw [Nat.add_comm 1, h2, allI]
  dsimp only
  rw [Bool.and_true, Bool.and_comm]
include ha hb hN hO in
theorem says_nor : saysL (N :: O :: (a ++ b)) lf = !(saysL a lf || saysL b lf) := by
  have h1 := says_sub lf ha [N, O] b ((a ++ b).length + 1) (by rw [List.length_append]; omega)
  have h2 := says_sub lf hb (N :: O :: a) [] ((a ++ b).length + 1) (by rw [List.length_append]; omega)
  rw [List.append_nil] at h2
  replace h1 : saysI (N :: O :: (a ++ b)) lf ((a ++ b).length + 1) 2 = (saysL a lf, 2 + a.length) := h1
  replace h2 : saysI (N :: O :: (a ++ b)) lf ((a ++ b).length + 1) (a.length + 1 + 1) = (saysL b lf, a.length + 1 + 1 + b.length) := h2
  rw [saysL, List.length_cons, List.length_cons, says_step2 (by rfl) hN, says_step3 (by rfl) hO, h1]
  dsimp only
  rw [show 2 + a.length = a.length + 1 + 1 by omega, h2]
  exact congrArg _ (Bool.or_comm _ _)
include ha hb hN hD hD2 in
theorem says_nots : saysL (D :: N :: (a ++ (N :: b))) lf = (!saysL a lf && !saysL b lf) := by
  have hl : (D :: N :: (a ++ (N :: b))).length + 1 = (a.length + b.length + 2) + 1 + 1 := by simp; omega
  have h1 := says_sub lf ha [D, N] (N :: b) (a.length + b.length + 2) (by omega)
  have h2 := says_sub lf hb (D :: N :: (a ++ [N])) [] (a.length + b.length + 2) (by omega)
  rw [List.append_nil] at h2
  replace h1 : saysI (D :: N :: (a ++ (N :: b))) lf (a.length + b.length + 2) 2 = (saysL a lf, 2 + a.length) := h1
  have e : D :: N :: (a ++ [N]) ++ b = D :: N :: (a ++ (N :: b)) := by simp
  have e2 : (D :: N :: (a ++ [N])).length = a.length + 1 + 1 + 1 := by simp
  rw [e, e2] at h2
  have h3 : (D :: N :: (a ++ (N :: b)))[a.length + 1 + 1]? = some N := by simp
  rw [saysL, hl, says_step1 (n := 2) (by rfl) hD hD2, allI, says_step2 (by rfl) hN, h1, allI]
  dsimp only
  rw [show 2 + a.length = a.length + 1 + 1 by omega, says_step2 h3 hN, h2, allI]
  dsimp only
  rw [Bool.and_true, Bool.and_comm]
include ha hN hD hD2 in
theorem whole_not (h : wholeL (D :: N :: (a ++ (N :: b))) = true) : wholeL (N :: a) = true := by
  obtain ⟨h1, hl⟩ := whole_one_ h
  obtain ⟨ha1, _⟩ := whole_one_ ha
  obtain ⟨_, _, _, hm⟩ := one_split h1
  have hk : kidsL (D :: N :: (a ++ (N :: b)))[0] = 2 := by show kidsL D = 2; unfold kidsL; rw [if_pos ⟨hD, by omega⟩, hD2]
  rw [hk] at hm
  obtain ⟨q, hq, _⟩ := manyI_succ (n := 1) hm
  rw [show (0 + 1 : Nat) = 0 + 1 from rfl, one_cons] at hq
  obtain ⟨q1, hq1, _⟩ := Option.map_eq_some_iff.1 hq
  obtain ⟨f, hf⟩ : ∃ f, (D :: N :: (a ++ (N :: b))).length = f + 1 := ⟨_, rfl⟩
  rw [hf] at hq1
  obtain ⟨_, _, _, hm1⟩ := one_split hq1
  have hk1 : kidsL (N :: (a ++ (N :: b)))[0] = 1 := kids_not hN
  rw [hk1] at hm1
  obtain ⟨q2, hq2, _⟩ := manyI_succ (n := 0) hm1
  rw [one_cons] at hq2
  obtain ⟨q3, hq3, _⟩ := Option.map_eq_some_iff.1 hq2
  have hpost : ∀ j, j < a.length → (a ++ (N :: b))[j]? = a[j]? := fun j hj => List.getElem?_append_left hj
  have hA := one_some a (a ++ (N :: b)) _ (f + q3 + a.length + 1) 0 1 1 _ ha1 (by omega) (Nat.le_refl _) hpost
  have hB := one_some (a ++ (N :: b)) (a ++ (N :: b)) _ (f + q3 + a.length + 1) 0 _ 1 _ hq3 (by omega) (by omega) (fun _ _ => rfl)
  have hq : q3 = a.length := Option.some.inj (hB.symm.trans hA)
  subst hq
  have hC := one_some (a ++ (N :: b)) a _ (a.length + 1) 0 _ 2 _ hq3 (by omega) (by omega) (fun j hj => (hpost j hj).symm)
  rw [List.length_cons, List.length_cons, List.length_append, List.length_cons] at hl
  rw [wholeL, List.length_cons, decide_eq_true (by omega), Bool.true_and]
  have : oneI (N :: a) (a.length + 1 + 1) 0 1 = some (a.length + 1) := by
    rw [oneI]
    show (if 0 < kidsL N ∧ 8 < 1 then none else if kidsL N < 0 then none else manyI (fun j => oneI (N :: a) (a.length + 1) j (1 + 1)) (kidsL N).toNat (0 + 1)) = _
    rw [kids_not hN, if_neg (by omega), if_neg (by omega)]
    show (oneI (N :: a) (a.length + 1) (0 + 1) 2).bind (manyI _ 0) = _
    rw [one_cons, hC]
    rfl
  rw [this]
  exact beq_self_eq_true _
include hN in
theorem whole_tail {l : List KeyD} (h : wholeL (N :: l) = true) : wholeL l = true := by
  obtain ⟨h1, hl⟩ := whole_one_ h
  obtain ⟨_, _, _, hm⟩ := one_split h1
  have hk : kidsL (N :: l)[0] = 1 := kids_not hN
  rw [hk] at hm
  obtain ⟨q, hq, hr⟩ := manyI_succ (n := 0) hm
  have hq2 : q = (N :: l).length := Option.some.inj hr
  rw [one_cons] at hq
  obtain ⟨q1, hq1, hq3⟩ := Option.map_eq_some_iff.1 hq
  rw [List.length_cons] at hq2 hl
  have : q1 = l.length := by omega
  subst this
  have := one_some l l _ (l.length + 1) 0 _ 1 _ hq1 (by omega) (by omega) (fun _ _ => rfl)
  rw [wholeL, decide_eq_true (by omega), Bool.true_and, this]
  exact beq_self_eq_true _
end
end Go.Proofs.YtmlmkcpdgcojlaaDoor
