/- Requests, sent one behind the other, in plain lists: what a feeder hears of them. -/
import Derived.Test.YtkocnldkimjonaaDoorLinN
namespace Go.Proofs.YtkocnldkimjonaaDoor
open Go.RowKit

def plainB (c : UInt8) : Bool := c != 13 && (c != 10 && (c != 123 && c != 125))
/-- a text without line ends and brackets -/
def plainL (l : List UInt8) : List UInt8 := l.filter plainB
/-- a part, and its literal -/
def partL (p l : List UInt8) : List UInt8 := plainL p ++ (123 :: (Lib.decDigits l.length ++ (125 :: 13 :: 10 :: l)))
/-- a request's text -/
def reqL : List (List UInt8 × List UInt8) → List UInt8
  | [] => []
  | [x] => plainL x.1
  | x :: y :: r => partL x.1 x.2 ++ reqL (y :: r)
theorem plain_ne (l : List UInt8) (c : UInt8) (h : c ∈ plainL l) : c ≠ 13 ∧ c ≠ 10 ∧ c ≠ 123 ∧ c ≠ 125 := by
  have := (List.mem_filter.1 h).2
  simp only [plainB, Bool.and_eq_true, bne_iff_ne] at this
  exact ⟨this.1, this.2.1, this.2.2.1, this.2.2.2⟩
theorem hasSuffix_last (l : List UInt8) (h : Lib.hasSuffix l [13, 10] = true) : l.getLast? = some 10 := by
  rw [Lib.hasSuffix, List.isSuffixOf_iff_suffix] at h
  obtain ⟨x, rfl⟩ := h
  simp
theorem not_ends (t : List UInt8) (p : Nat) (c : UInt8) (lf : Nat) (d : Bool) (hp : p ≤ t.length) (hc : c ≠ 10) : endsL ⟨t ++ [c], p, lf, d⟩ = false := by
  cases h : endsL ⟨t ++ [c], p, lf, d⟩ with
  | false => rfl
  | true =>
    have := hasSuffix_last _ h
    rw [List.drop_append_of_le_length hp, List.getLast?_append] at this
    simp at this
    exact absurd this hc
/-- bytes that end no line -/
theorem feed_quiet : ∀ (q t : List UInt8) (p : Nat), p ≤ t.length → (∀ c ∈ q, c ≠ 10) → t.length + q.length - p < 1000 → t.length + q.length < 8192 → feedGo ⟨t, p, 0, false⟩ q = (⟨t ++ q, p, 0, false⟩, [])
  | [], t, p, _, _, _, _ => by simp [feedGo]
  | c :: q, t, p, hp, hq, h1, h2 => by
    rw [List.length_cons] at h1 h2
    have hf : feed1 ⟨t, p, 0, false⟩ c = (⟨t ++ [c], p, 0, false⟩, []) := by
      rw [feed1, if_neg (by simp)]
      have := not_ends t p c 0 false hp (hq c (by simp))
      rw [if_neg (by rw [this]; simp), if_neg (by simp only; omega)]
    have ih := feed_quiet q (t ++ [c]) p (by simp; omega) (fun d hd => hq d (by simp [hd])) (by simp; omega) (by simp; omega)
    rw [feedGo, if_neg (by simp), hf, ih]
    simp
/-- a line -/
theorem feed_line (q t : List UInt8) (hq : ∀ c ∈ q, c ≠ 10) (h1 : q.length ≤ 990) (h2 : t.length + q.length ≤ 8100) : feedGo ⟨t, t.length, 0, false⟩ (q ++ [13, 10]) = ((heardL ⟨t ++ (q ++ [13, 10]), t.length, 0, false⟩).1, [(heardL ⟨t ++ (q ++ [13, 10]), t.length, 0, false⟩).2]) := by
  have e : q ++ [13, 10] = (q ++ [13]) ++ [10] := by simp
  have hA := feed_quiet (q ++ [13]) t t.length (Nat.le_refl _) (fun c hc => by
    rcases List.mem_append.1 hc with h | h
    · exact hq c h
    · simp at h; subst h; decide) (by simp; omega) (by simp; omega)
  have hE : endsL ⟨t ++ (q ++ [13]) ++ [10], t.length, 0, false⟩ = true := by
    rw [endsL]
    simp only
    rw [List.append_assoc, List.drop_left, Lib.hasSuffix, List.isSuffixOf_iff_suffix]
    exact ⟨q, by simp⟩
  rw [e, feedGo_snoc _ _ _ (by rw [hA]), hA, feed1, if_neg (by simp)]
  simp only
  rw [if_pos hE]
  simp [List.append_assoc]
theorem heardL_line (q t : List UInt8) : heardL ⟨t ++ (q ++ [13, 10]), t.length, 0, false⟩ = match awL q with
    | some n => if 4096 < n ∨ 8192 < t.length + q.length + 2 + n then (⟨[], 0, 0, false⟩, 3, t ++ q) else (⟨t ++ (q ++ [13, 10]), t.length + q.length + 2, n, false⟩, 2, [])
    | none => (⟨[], 0, 0, false⟩, 1, t ++ q) := by
  have e : (t ++ (q ++ [13, 10])).take ((t ++ (q ++ [13, 10])).length - 2) = t ++ q := by
    rw [← List.append_assoc, List.take_left' (by simp; omega)]
  have l : (t ++ (q ++ [13, 10])).length = t.length + q.length + 2 := by simp; omega
  simp only [heardL]
  rw [e, List.drop_left, l]
  cases awL q <;> rfl
theorem awL_plain (p : List UInt8) : awL (plainL p) = none := by
  rw [awL, if_neg]
  intro h
  rcases List.eq_nil_or_concat (plainL p) with h0 | ⟨r, d, h0⟩
  · rw [h0] at h; exact absurd h (by decide)
  · rw [List.concat_eq_append] at h0
    have hd := plain_ne p d (by rw [h0]; simp)
    rw [h0] at h
    simp at h
    exact hd.2.2.2 h
theorem decDigits_byte (n : Nat) (c : UInt8) (h : c ∈ Lib.decDigits n) : isDig c = true := by
  cases hd : isDig c with
  | true => rfl
  | false =>
    exfalso
    have hall : ∀ (l : List UInt8) (acc u : Nat), dv acc l = some u → ∀ c ∈ l, isDig c = true := by
      intro l
      induction l with
      | nil => intro _ _ _ c hc; simp at hc
      | cons x r ih =>
        intro acc u hu c hc
        rw [dv] at hu
        split at hu
        · rename_i hx
          rcases List.mem_cons.1 hc with rfl | hc
          · exact hx
          · exact ih _ _ hu c hc
        · cases hu
    have := hall _ 0 n (dv_digits n) c h
    rw [hd] at this; cases this
theorem dig_ne (c : UInt8) (h : isDig c = true) : c ≠ 10 ∧ c ≠ 123 ∧ c ≠ 13 := by
  simp only [isDig, Bool.and_eq_true, decide_eq_true_eq] at h
  refine ⟨?_, ?_, ?_⟩ <;> (intro e; rw [e] at h; revert h; decide)
theorem awL_part (p : List UInt8) (n : Nat) (hn : n ≤ mxN) : awL (plainL p ++ (123 :: (Lib.decDigits n ++ [125]))) = some n := by
  have e : plainL p ++ (123 :: (Lib.decDigits n ++ [125])) = (plainL p ++ (123 :: Lib.decDigits n)) ++ [125] := by simp
  have hlast : (plainL p ++ (123 :: (Lib.decDigits n ++ [125]))).getLastD 0 = 125 := by rw [e, List.getLastD_concat]
  have hlo : lastOpen (plainL p ++ (123 :: (Lib.decDigits n ++ [125]))) = some (plainL p).length := by
    refine lastOpen_some _ _ (by simp) ?_ ?_
    · simp [List.getD]
    · intro j h1 h2
      have h3 : ∃ i, j = (plainL p).length + (i + 1) := ⟨j - (plainL p).length - 1, by omega⟩
      obtain ⟨i, rfl⟩ := h3
      have h4 : i < (Lib.decDigits n ++ [125]).length := by simp at h2 ⊢; omega
      have h5 : (plainL p ++ (123 :: (Lib.decDigits n ++ [125]))).getD ((plainL p).length + (i + 1)) 0 = (Lib.decDigits n ++ [125])[i] := by
        rw [List.getD, List.getElem?_append_right (by omega), show (plainL p).length + (i + 1) - (plainL p).length = i + 1 by omega, List.getElem?_cons_succ, List.getElem?_eq_getElem h4]
        rfl
      rw [h5]
      rcases List.mem_append.1 (List.getElem_mem h4) with h6 | h6
      · exact (dig_ne _ (decDigits_byte n _ h6)).2.1
      · simp at h6
        rw [h6]; decide
  rw [awL, if_pos hlast, hlo]
  simp only
  have hd : ((plainL p ++ (123 :: (Lib.decDigits n ++ [125]))).drop ((plainL p).length + 1)).take ((plainL p ++ (123 :: (Lib.decDigits n ++ [125]))).length - 1 - ((plainL p).length + 1)) = Lib.decDigits n := by
    rw [← List.drop_drop, List.drop_left, List.drop_succ_cons, List.drop_zero, List.take_left' (by simp; omega)]
  rw [hd, numL_digits, if_pos hn]
/-- a literal -/
theorem feed_lit : ∀ (l t : List UInt8) (p : Nat), 0 < l.length → feedGo ⟨t, p, l.length, false⟩ l = (⟨t ++ l, (t ++ l).length, 0, false⟩, [])
  | [], t, p, h => by simp at h
  | [c], t, p, _ => by
    rw [feedGo_one _ _ rfl, feed1]
    simp
  | c :: d :: r, t, p, _ => by
    have ih := feed_lit (d :: r) (t ++ [c]) p (by simp)
    have hf : feed1 ⟨t, p, (c :: d :: r).length, false⟩ c = (⟨t ++ [c], p, (d :: r).length, false⟩, []) := by
      rw [feed1]
      simp
    rw [feedGo, if_neg (by simp), hf, ih]
    simp
theorem feed_part (t p l : List UInt8) (hp : (plainL p).length ≤ 900) (hl : l.length ≤ 4096) (ht : t.length + (partL p l).length ≤ 8000) :
    feedGo ⟨t, t.length, 0, false⟩ (partL p l) = (⟨t ++ partL p l, (t ++ partL p l).length, 0, false⟩, [(2, [])]) := by
  have hpl : (partL p l).length = (plainL p).length + (Lib.decDigits l.length).length + 4 + l.length := by simp [partL]; omega
  have hdl : (Lib.decDigits l.length).length ≤ 4 := by
    rw [Lib.decDigits_length]
    exact nDigits_pow _ 4 (by decide) (by omega)
  have e : partL p l = ((plainL p ++ (123 :: (Lib.decDigits l.length ++ [125]))) ++ [13, 10]) ++ l := by simp [partL]
  have hq : ∀ c ∈ plainL p ++ (123 :: (Lib.decDigits l.length ++ [125])), c ≠ 10 := by
    intro c hc
    rcases List.mem_append.1 hc with h | h
    · exact (plain_ne p c h).2.1
    · rcases List.mem_cons.1 h with rfl | h
      · decide
      · rcases List.mem_append.1 h with h | h
        · exact (dig_ne c (decDigits_byte _ c h)).1
        · simp at h; subst h; decide
  have hql : (plainL p ++ (123 :: (Lib.decDigits l.length ++ [125]))).length = (plainL p).length + (Lib.decDigits l.length).length + 2 := by simp; omega
  have hL := feed_line _ t hq (by omega) (by omega)
  have hH := heardL_line (plainL p ++ (123 :: (Lib.decDigits l.length ++ [125]))) t
  rw [awL_part p l.length (by unfold mxN; omega)] at hH
  simp only at hH
  rw [if_neg (by omega)] at hH
  rw [hH] at hL
  rw [e, feedGo_app, hL]
  simp only
  rcases Nat.eq_zero_or_pos l.length with h0 | h0
  · obtain rfl := List.eq_nil_of_length_eq_zero h0
    simp [feedGo]
    omega
  · rw [feed_lit l _ _ h0]
    simp
/-- all parts are short enough -/
def Short (r : List (List UInt8 × List UInt8)) : Prop := ∀ x ∈ r, (plainL x.1).length ≤ 900 ∧ x.2.length ≤ 4096
theorem feed_req : ∀ (r : List (List UInt8 × List UInt8)) (t : List UInt8), Short r → t.length + (reqL r).length ≤ 8000 →
    feedGo ⟨t, t.length, 0, false⟩ (reqL r ++ [13, 10]) = (fs0, List.replicate (r.length - 1) (2, []) ++ [(1, t ++ reqL r)])
  | [], t, _, ht => by
    have h := feed_line [] t (by simp) (by simp) (by simp; simp [reqL] at ht; omega)
    rw [heardL_line, show awL [] = none from rfl] at h
    simpa [reqL, fs0] using h
  | [x], t, hs, ht => by
    have h1 := (hs x (by simp)).1
    have h2 : t.length + (plainL x.1).length ≤ 8000 := ht
    have h := feed_line (plainL x.1) t (fun c hc => (plain_ne _ c hc).2.1) (by omega) (by omega)
    rw [heardL_line, awL_plain] at h
    simpa [reqL, fs0] using h
  | x :: y :: r, t, hs, ht => by
    have hx := hs x (by simp)
    have hl : (reqL (x :: y :: r)).length = (partL x.1 x.2).length + (reqL (y :: r)).length := by simp [reqL]
    have h1 := feed_part t x.1 x.2 hx.1 hx.2 (by omega)
    have ih := feed_req (y :: r) (t ++ partL x.1 x.2) (fun z hz => hs z (by simp [hz])) (by rw [List.length_append]; omega)
    have e : reqL (x :: y :: r) ++ [13, 10] = partL x.1 x.2 ++ (reqL (y :: r) ++ [13, 10]) := by simp [reqL]
    rw [e, feedGo_app, h1]
    simp only
    rw [ih]
    simp [reqL, List.replicate_succ]
/-- the text when k parts are written -/
def reqTo (r : List (List UInt8 × List UInt8)) (k : Nat) : List UInt8 := (List.range k).flatMap fun i => if i + 1 < r.length then partL (r.getD i ([], [])).1 (r.getD i ([], [])).2 else plainL (r.getD i ([], [])).1
theorem reqTo_succ (r : List (List UInt8 × List UInt8)) (k : Nat) : reqTo r (k + 1) = reqTo r k ++ (if k + 1 < r.length then partL (r.getD k ([], [])).1 (r.getD k ([], [])).2 else plainL (r.getD k ([], [])).1) := by
  rw [reqTo, List.range_succ, List.flatMap_append]; simp [reqTo]
theorem reqTo_all : ∀ r : List (List UInt8 × List UInt8), reqTo r r.length = reqL r
  | [] => rfl
  | [x] => by simp [reqTo, reqL]
  | x :: y :: r => by
    have ih := reqTo_all (y :: r)
    rw [reqL, ← ih]
    unfold reqTo
    rw [List.length_cons, List.range_succ_eq_map, List.flatMap_cons, List.flatMap_map]
    simp
end Go.Proofs.YtkocnldkimjonaaDoor
