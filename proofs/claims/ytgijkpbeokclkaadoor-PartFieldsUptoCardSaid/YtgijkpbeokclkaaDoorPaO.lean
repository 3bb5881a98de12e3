/- The document's Fields: plain laws on lines that are cut one by one, and the first loop walked. -/
import Derived.Test.YtgijkpbeokclkaaDoorPaN
namespace Go.Proofs.YtgijkpbeokclkaaDoor
open Go.RowKit

theorem blank_any (c : UInt8) (w : World) : Calls Tryd.prog 23 #[.int .u8 c.toNat] w fun e w' => e = .returned (.bool (isBl c)) ∧ w = w' := by
  by_cases h1 : c = 32
  · subst h1
    have h : isBl 32 = true := rfl
    rw [h]
    go_enter Tryd.func23, Tryd.ntmps23
    go_wp2_with fail
    go_ret
    exact ⟨rfl, rfl⟩
  · have k1 : ((c.toNat : Int) == 32) = false := beq_eq_false_iff_ne.2 fun e => h1 (byte_ext e)
    by_cases h2 : c = 9
    · subst h2
      have h : isBl 9 = true := rfl
      rw [h]
      go_enter Tryd.func23, Tryd.ntmps23
      go_wp2_with fail
      go_ret
      exact ⟨rfl, rfl⟩
    · have k2 : ((c.toNat : Int) == 9) = false := beq_eq_false_iff_ne.2 fun e => h2 (byte_ext e)
      have h : isBl c = false := by simp [isBl, h1, h2]
      rw [h]
      go_enter Tryd.func23, Tryd.ntmps23
      go_wp2_with fail
      go_ret
      exact ⟨rfl, rfl⟩
/-- between the rounds of the first loop: f is where the line begins, k what is looked at, out the lines so far -/
def CutInv (h : List UInt8) (k f : Nat) (out : List (List UInt8)) : Prop :=
  (k ≤ h.length ∧ f ≤ h.length ∧ f ≤ k + 1 ∧ (∀ j, f ≤ j → j < k → atL h j crlf = false) ∧ unfL (linesL h) = (linesL (h.drop f)).foldl unfStep out) ∨ (k = h.length + 1 ∧ out = unfL (linesL h))
theorem CutInv.start (h : List UInt8) : CutInv h 0 0 [] := .inl ⟨Nat.zero_le _, Nat.zero_le _, by omega, fun j _ hj => by omega, rfl⟩
theorem CutInv.head {h : List UInt8} {k f : Nat} {out : List (List UInt8)} (c : CutInv h k f out) (hk : k ≤ h.length) : f ≤ h.length ∧ f ≤ k + 1 := by
  rcases c with c | c
  · exact ⟨c.2.1, c.2.2.1⟩
  · omega
theorem CutInv.skip {h : List UInt8} {k f : Nat} {out : List (List UInt8)} (c : CutInv h k f out) (hk : k < h.length) (hn : atL h k crlf = false ∨ k < f) : CutInv h (k + 1) f out := by
  rcases c with ⟨_, c2, c3, c4, c5⟩ | c
  · refine .inl ⟨hk, c2, by omega, fun j h1 h2 => ?_, c5⟩
    rcases Nat.lt_or_ge j k with h | h
    · exact c4 j h1 h
    · obtain rfl : j = k := by omega
      rcases hn with hn | hn
      · exact hn
      · omega
  · omega
theorem at_drop (h : List UInt8) (f j : Nat) (u : List UInt8) : Lib.occAt (h.drop f) u j = atL h (f + j) u := by
  rw [Lib.occAt, atL, List.drop_drop]
theorem CutInv.cut {h : List UInt8} {k f : Nat} {out : List (List UInt8)} (c : CutInv h k f out) (hk : k < h.length) (hf : f ≤ k) (ha : atL h k crlf = true) : CutInv h (k + 1) (k + 2) (unfStep out ((h.drop f).take (k - f))) := by
  rcases c with ⟨_, c2, c3, c4, c5⟩ | c
  · have hfit := at_fits ha (Nat.le_of_lt hk)
    have e2 : crlf.length = 2 := rfl
    have hix : Lib.index (h.drop f) crlf = ((k - f : Nat) : Int) := by
      refine Lib.index_first (by rw [List.length_drop]; omega) ?_ (fun j hj => ?_)
      · rw [at_drop, show f + (k - f) = k by omega]; exact ha
      · rw [at_drop]; exact c4 _ (by omega) (by omega)
    refine .inl ⟨by omega, by omega, by omega, fun j h1 h2 => by omega, ?_⟩
    rw [c5, linesL_hit hix, List.foldl_cons, List.drop_drop, show f + (k - f + 2) = k + 2 by omega]
  · omega
theorem CutInv.last {h : List UInt8} {k f : Nat} {out : List (List UInt8)} (c : CutInv h k f out) (hk : k = h.length) : CutInv h (k + 1) (k + 2) (unfStep out ((h.drop f).take (k - f))) := by
  rcases c with ⟨_, c2, c3, c4, c5⟩ | c
  · subst hk
    have hix : Lib.index (h.drop f) crlf = -1 := Lib.index_none (fun j hj => by
      rw [List.length_drop] at hj
      rw [at_drop]
      rcases Nat.lt_or_ge (f + j) h.length with hl | hl
      · exact c4 _ (by omega) hl
      · rw [atL, prefix_short _ _ (by rw [List.length_drop]; simp [crlf]; omega)])
    refine .inr ⟨rfl, ?_⟩
    rw [c5, linesL_miss hix, List.foldl_cons, List.foldl_nil, List.take_of_length_le (by rw [List.length_drop]; exact Nat.le_refl _)]
  · omega
theorem CutInv.done {h : List UInt8} {k f : Nat} {out : List (List UInt8)} (c : CutInv h k f out) (hk : h.length < k) : out = unfL (linesL h) := by
  rcases c with c | c
  · omega
  · exact c.2
/-- the bytes so far: enough to bound each line -/
def OutSz (n k f : Nat) (out : List (List UInt8)) : Prop := out.length ≤ k ∧ out.flatten.length ≤ f ∧ k ≤ n + 1
theorem trim_mid {a v b : List UInt8} (ha : ∀ c ∈ a, isBl c = true) (hb : ∀ c ∈ b, isBl c = true) (hv : v = [] ∨ (∃ c r, v = c :: r ∧ isBl c = false) ∧ (∃ c r, v = r ++ [c] ∧ isBl c = false)) : Lib.trimS (a ++ v ++ b) [32, 9] = v := by
  have hbl : ∀ c : UInt8, (([32, 9] : List UInt8).contains c) = isBl c := fun c => by rw [isBl]; simp only [List.contains_cons, List.contains_nil, Bool.or_false]
  have hfn : (fun c : UInt8 => ([32, 9] : List UInt8).contains c) = isBl := funext hbl
  have dw : ∀ (l m : List UInt8), (∀ c ∈ l, isBl c = true) → (l ++ m).dropWhile isBl = m.dropWhile isBl := fun l m hl => by
    induction l with
    | nil => rfl
    | cons c r ih => rw [List.cons_append, List.dropWhile_cons_of_pos (hl c (by simp)), ih (fun x hx => hl x (by simp [hx]))]
  rw [Lib.trimS, Lib.trimLeftS, Lib.trimRightS, hfn, List.reverse_append, dw _ _ (fun c hc => hb c (List.mem_reverse.1 hc))]
  rcases hv with rfl | ⟨⟨c, r, h1, h2⟩, ⟨d, q, h3, h4⟩⟩
  · rw [List.append_nil]
    have : (a.reverse).dropWhile isBl = [] := by
      have := dw a.reverse [] (fun c hc => ha c (List.mem_reverse.1 hc))
      rwa [List.append_nil] at this
    rw [this]; rfl
  · have e : (a ++ v).reverse.dropWhile isBl = (a ++ v).reverse := by
      rw [h3, ← List.append_assoc, List.reverse_append]
      exact List.dropWhile_cons_of_neg (by rw [h4]; simp)
    rw [e, List.reverse_reverse, dw _ _ ha, h1]
    exact List.dropWhile_cons_of_neg (by rw [h2]; simp)
theorem field_at {l : List UInt8} {k : Nat} (hk : k < l.length) (hno : ∀ j, j < k → l[j]? ≠ some 58) (hc : l[k] = 58) : fieldL l = if k = 0 then none else some (l.take k, Lib.trimS (l.drop (k + 1)) [32, 9]) := by
  have hix : Lib.index l [58] = k := by
    refine Lib.index_first (Nat.le_of_lt hk) ?_ (fun j hj => ?_)
    · show atL _ _ _ = true
      rw [atL, List.drop_eq_getElem_cons hk, hc]; rfl
    · cases ha : Lib.occAt l [58] j
      · rfl
      · exact absurd (atL_head (u := []) ha) (hno j hj)
  have hcut : Lib.cut l [58] = (l.take k, l.drop (k + 1), true) := by
    rw [Lib.cut, hix, if_pos (by omega)]; rfl
  rw [fieldL, hcut]
  by_cases h0 : k = 0
  · subst h0; rfl
  · have hne : l.take k ≠ [] := fun e => by
      have := congrArg List.length e
      rw [List.length_take, List.length_nil] at this; omega
    rw [if_neg h0, if_pos ⟨rfl, hne⟩]
theorem field_no {l : List UInt8} (hno : ∀ j, j < l.length → l[j]? ≠ some 58) : fieldL l = none := by
  have hix : Lib.index l [58] = -1 := Lib.index_none (fun j hj => by
    cases ha : Lib.occAt l [58] j
    · rfl
    · have h1 := atL_head (u := []) ha
      have : j < l.length := by
        rcases Nat.lt_or_ge j l.length with h | h
        · exact h
        · rw [List.getElem?_eq_none h] at h1; cases h1
      exact absurd h1 (hno j this))
  have hcut : Lib.cut l [58] = (l, [], false) := by rw [Lib.cut, hix]; rfl
  rw [fieldL, hcut, if_neg (fun h => by cases h.1)]
/-- the loop that takes blanks away in front -/
def TrimA (V v : List UInt8) : Prop := ∃ a, V = a ++ v ∧ ∀ c ∈ a, isBl c = true
theorem TrimA.start (V : List UInt8) : TrimA V V := ⟨[], rfl, fun _ hc => by cases hc⟩
theorem TrimA.next {V r : List UInt8} {c : UInt8} (h : TrimA V (c :: r)) (hc : isBl c = true) : TrimA V r := by
  obtain ⟨a, h1, h2⟩ := h
  refine ⟨a ++ [c], by rw [h1]; simp, fun x hx => ?_⟩
  rcases List.mem_append.1 hx with hx | hx
  · exact h2 x hx
  · obtain rfl : x = c := by simpa using hx
    exact hc
/-- .. and behind -/
def TrimB (V v : List UInt8) : Prop := ∃ a b, V = a ++ v ++ b ∧ (∀ c ∈ a, isBl c = true) ∧ (∀ c ∈ b, isBl c = true) ∧ (v = [] ∨ ∃ c r, v = c :: r ∧ isBl c = false)
theorem TrimA.turn {V v : List UInt8} (h : TrimA V v) (hv : v = [] ∨ ∃ c r, v = c :: r ∧ isBl c = false) : TrimB V v := by
  obtain ⟨a, h1, h2⟩ := h
  exact ⟨a, [], by rw [h1]; simp, h2, (fun c hc => by cases hc), hv⟩
theorem TrimB.next {V r : List UInt8} {c : UInt8} (h : TrimB V (r ++ [c])) (hc : isBl c = true) : TrimB V r := by
  obtain ⟨a, b, h1, h2, h3, h4⟩ := h
  refine ⟨a, c :: b, by rw [h1]; simp, h2, fun x hx => ?_, ?_⟩
  · rcases List.mem_cons.1 hx with rfl | hx
    · exact hc
    · exact h3 x hx
  · cases r with
    | nil => exact .inl rfl
    | cons d q =>
      rcases h4 with h4 | ⟨d', q', h4, h5⟩
      · simp at h4
      · right
        rw [List.cons_append] at h4
        injection h4 with h6 _
        exact ⟨d, q, rfl, by rw [h6]; exact h5⟩
theorem TrimB.done {V v : List UInt8} (h : TrimB V v) (hv : v = [] ∨ ∃ c r, v = r ++ [c] ∧ isBl c = false) : Lib.trimS V [32, 9] = v := by
  obtain ⟨a, b, h1, h2, h3, h4⟩ := h
  rw [h1]
  refine trim_mid h2 h3 ?_
  rcases hv with hv | hv
  · exact .inl hv
  · rcases h4 with h4 | h4
    · exact .inl h4
    · exact .inr ⟨h4, hv⟩
theorem head_list (v : ByteArray) (h : 0 < v.size) : v.data.toList = v[0] :: (v.extract 1 v.size).data.toList := by
  have h1 := drop_cons v 0 h
  rw [List.drop_zero] at h1
  rw [h1, Lib.extract_to_end]
theorem last_list (v : ByteArray) (h : 0 < v.size) : v.data.toList = (v.extract 0 (v.size - 1)).data.toList ++ [v[v.size - 1]] := by
  have h1 := take_snoc v (v.size - 1) (by omega)
  rw [show v.size - 1 + 1 = v.size by omega, take_all] at h1
  rw [Lib.extract_from_zero]; exact h1
/-- how long a text is -/
def strLen : Value → Nat
  | .string s => s.size
  | _ => 0
end Go.Proofs.YtgijkpbeokclkaaDoor
