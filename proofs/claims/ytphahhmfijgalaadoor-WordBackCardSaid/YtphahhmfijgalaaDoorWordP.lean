/- Plain laws of quoted texts and of mailboxes' names: no program in sight. -/
import Derived.Test.YtphahhmfijgalaaDoorWordJ
namespace Go.Proofs.YtphahhmfijgalaaDoor
open Go.RowKit

theorem esc1_yes (c : UInt8) (h : ((c.toNat : Int) == 34) = true ∨ ((c.toNat : Int) == 92) = true) : esc1 c = [92, c] := by
  rw [esc1, if_pos (by rw [Bool.or_eq_true]; exact h)]
theorem esc1_no (c : UInt8) (h1 : ((c.toNat : Int) == 34) = false) (h2 : ((c.toNat : Int) == 92) = false) : esc1 c = [c] := by
  rw [esc1, if_neg (by rw [h1, h2]; simp)]
theorem escL_cons (c : UInt8) (l : List UInt8) : escL (c :: l) = esc1 c ++ escL l := by simp [escL]

/-- what is quoted is read as it was -/
theorem unq_quoted (behind : List UInt8) : ∀ (l acc : List UInt8) (i : Nat), allB quot l = true → acc.length + l.length ≤ 512 →
    unqGo (escL l ++ 34 :: behind) acc i = some (acc ++ l, i + (escL l).length + 1)
  | [], acc, i, _, hl => by
    simp only [escL, List.flatMap_nil, List.nil_append, List.append_nil, List.length_nil, Nat.add_zero]
    rw [unqGo_cons, if_neg (by simp at hl; omega), if_pos (by rfl)]
  | c :: l, acc, i, hq, hl => by
    simp only [allB, List.all_cons, Bool.and_eq_true] at hq
    simp only [List.length_cons] at hl
    rw [escL_cons]
    cases h1 : ((c.toNat : Int) == 34)
    case' false => cases h2 : ((c.toNat : Int) == 92)
    case false.false =>
      rw [esc1_no c h1 h2, List.cons_append, List.nil_append, List.cons_append, unqGo_cons, if_neg (by omega), if_neg (by rw [h1]; simp), if_neg (by rw [h2]; simp), if_pos hq.1]
      rw [unq_quoted behind l (acc ++ [c]) (i + 1) hq.2 (by simp; omega)]
      simp; omega
    all_goals
      have hh : ((c.toNat : Int) == 34) = true ∨ ((c.toNat : Int) == 92) = true := by first | exact .inl h1 | exact .inr h2
      rw [esc1_yes c hh, show ([92, c] ++ escL l ++ 34 :: behind) = 92 :: c :: (escL l ++ 34 :: behind) from rfl, show ([92, c] ++ escL l).length = (escL l).length + 2 from by simp, unqGo_cons, if_neg (by omega), if_neg (by decide), if_pos (by decide)]
      simp only [hh, if_true]
      rw [unq_quoted behind l (acc ++ [c]) (i + 2) hq.2 (by simp; omega)]
      simp; omega
theorem quoteOk_iff (l : List UInt8) : quoteOk l = true ↔ l.length ≤ 512 ∧ allB quot l = true := by simp [quoteOk]
theorem unq_back (l behind : List UInt8) (h : quoteOk l = true) : unqL (quoteL l ++ behind) = some (l, (quoteL l).length) := by
  obtain ⟨h1, h2⟩ := (quoteOk_iff l).1 h
  have e : quoteL l = 34 :: (escL l ++ [34]) := by rw [quoteL, h]; rfl
  rw [e, List.cons_append, unqL, if_pos (by rfl), List.append_assoc, List.cons_append, List.nil_append, unq_quoted behind l [] 1 h2 (by simpa using h1)]
  simp; omega

/-- what is read is quoted so -/
theorem unq_reads : ∀ (m : Nat) (l acc : List UInt8) (i : Nat) (t : List UInt8) (n : Nat), l.length ≤ m → unqGo l acc i = some (t, n) →
    ∃ t', t = acc ++ t' ∧ n = i + (escL t').length + 1 ∧ (escL t').length + 1 ≤ l.length ∧ l.take ((escL t').length + 1) = escL t' ++ [34] ∧ allB quot t' = true ∧ t.length ≤ 512
  | 0, l, acc, i, t, n, hm, h => by
    rw [List.eq_nil_of_length_eq_zero (l := l) (by omega)] at h
    simp [unqGo] at h
  | m + 1, [], acc, i, t, n, hm, h => by simp [unqGo] at h
  | m + 1, c :: r, acc, i, t, n, hm, h => by
    rw [unqGo_cons] at h
    by_cases hf : 512 < acc.length
    · rw [if_pos hf] at h; cases h
    rw [if_neg hf] at h
    cases h1 : ((c.toNat : Int) == 34)
    case true =>
      rw [if_pos h1] at h
      have hc : c = 34 := byte_ext (eq_of_beq h1)
      cases h
      exact ⟨[], by simp, by simp [escL], by simp [escL], by simp [escL, hc], rfl, by omega⟩
    rw [if_neg (by rw [h1]; simp)] at h
    cases h2 : ((c.toNat : Int) == 92)
    case true =>
      rw [if_pos h2] at h
      have hc : c = 92 := byte_ext (eq_of_beq h2)
      match r, h, hm with
      | [], h, hm => cases h
      | d :: r', h, hm =>
        by_cases hd : ((d.toNat : Int) == 34) = true ∨ ((d.toNat : Int) == 92) = true
        · simp only [hd, if_true] at h
          obtain ⟨t', e1, e2, e3, e4, e5, e6⟩ := unq_reads m r' (acc ++ [d]) (i + 2) t n (by simp at hm; omega) h
          refine ⟨d :: t', by rw [e1]; simp, ?_, ?_, ?_, ?_, e6⟩
          · rw [escL_cons, esc1_yes d hd, e2]; simp; omega
          · rw [escL_cons, esc1_yes d hd]; simp; omega
          · rw [escL_cons, esc1_yes d hd, hc]
            simp only [List.cons_append, List.nil_append, List.length_cons, List.take_succ_cons]
            rw [e4]
          · have hqd := quot_esc d hd
            simp only [allB, List.all_cons, hqd, Bool.true_and] at e5 ⊢; exact e5
        · simp only [hd, if_false] at h; cases h
    rw [if_neg (by rw [h2]; simp)] at h
    cases hq : quot c.toNat
    · rw [if_neg (by rw [hq]; simp)] at h; cases h
    rw [if_pos hq] at h
    obtain ⟨t', e1, e2, e3, e4, e5, e6⟩ := unq_reads m r (acc ++ [c]) (i + 1) t n (by simp at hm; omega) h
    refine ⟨c :: t', by rw [e1]; simp, ?_, ?_, ?_, ?_, e6⟩
    · rw [escL_cons, esc1_no c h1 h2, e2]; simp; omega
    · rw [escL_cons, esc1_no c h1 h2]; simp; omega
    · rw [escL_cons, esc1_no c h1 h2]
      simp only [List.cons_append, List.nil_append, List.length_cons, List.take_succ_cons]
      rw [e4]
    · simp only [allB, List.all_cons, hq, Bool.true_and] at e5 ⊢; exact e5
theorem unq_quotes (l t : List UInt8) (n : Nat) (h : unqL l = some (t, n)) : quoteOk t = true ∧ n ≤ l.length ∧ quoteL t = l.take n := by
  match l, h with
  | [], h => cases h
  | c :: r, h =>
    rw [unqL] at h
    cases h1 : ((c.toNat : Int) == 34)
    · rw [if_neg (by rw [h1]; simp)] at h; cases h
    rw [if_pos h1] at h
    have hc : c = 34 := byte_ext (eq_of_beq h1)
    obtain ⟨t', e1, e2, e3, e4, e5, e6⟩ := unq_reads r.length r [] 1 t n (Nat.le_refl _) h
    rw [List.nil_append] at e1
    subst e1
    have hk : quoteOk t = true := (quoteOk_iff t).2 ⟨e6, e5⟩
    refine ⟨hk, by simp only [List.length_cons]; omega, ?_⟩
    rw [quoteL, hk, if_pos rfl, e2, show 1 + (escL t).length + 1 = ((escL t).length + 1) + 1 from by omega, List.take_succ_cons, e4, hc]

/-- what a mailbox is called it is called again -/
theorem box_again (l : List UInt8) (h : boxOk l = true) : boxOk (boxL l) = true ∧ boxL (boxL l) = boxL l ∧ (boxL l).length = l.length ∧ upL (boxL l) = upL l := by
  by_cases hu : (upL l == inboxL) = true
  · have e : boxL l = inboxL := by rw [boxL, h, if_pos rfl, if_pos hu]
    have hl := eq_of_beq hu
    rw [e]
    exact ⟨by rfl, by rfl, by rw [← upL_length l, hl], by rw [hl]; rfl⟩
  · have e : boxL l = l := by rw [boxL, h, if_pos rfl, if_neg hu]
    rw [e]
    exact ⟨h, e, rfl, rfl⟩
/-- INBOX with some of its letters small -/
def smallOf (c : UInt8) (b : Bool) : UInt8 := if b then c + 32 else c
def inboxS (b0 b1 b2 b3 b4 : Bool) : List UInt8 := [smallOf 73 b0, smallOf 78 b1, smallOf 66 b2, smallOf 79 b3, smallOf 88 b4]
theorem inbox_any (b0 b1 b2 b3 b4 : Bool) : boxOk (inboxS b0 b1 b2 b3 b4) = true ∧ boxL (inboxS b0 b1 b2 b3 b4) = inboxL := by
  cases b0 <;> cases b1 <;> cases b2 <;> cases b3 <;> cases b4 <;> exact ⟨by rfl, by rfl⟩
end Go.Proofs.YtphahhmfijgalaaDoor
