/- What the document's Hear is in plain lists: it goes as the feeder goes. -/
import Derived.Test.YtkocnldkimjonaaDoorLinJ
namespace Go.Proofs.YtkocnldkimjonaaDoor
open Go.RowKit

/-- ahead of byte 'at' of the text s: the request begins at 'begin', the part at 'part', hs was heard -/
structure HearInv (s : List UInt8) (at_ begin part : Nat) (hs : List (Nat × List UInt8)) (st : FS) : Prop where
  go : feedGo fs0 (s.take at_) = (st, hs)
  deaf : st.deaf = false
  le1 : begin ≤ at_
  le2 : begin ≤ part
  text : st.text = (s.take at_).drop begin
  left : st.left = part - at_
  part : part ≤ at_ → st.part = part - begin
theorem HearInv.start (s : List UInt8) : HearInv s 0 0 0 [] fs0 := ⟨by simp [feedGo], rfl, Nat.le_refl _, Nat.le_refl _, by simp [fs0], rfl, fun _ => rfl⟩
theorem HearInv.good {s : List UInt8} {k b p : Nat} {hs : List (Nat × List UInt8)} {st : FS} (h : HearInv s k b p hs st) : Good st := by
  have := Good.go (s.take k) Good.new
  rw [show (⟨[], 0, 0, false⟩ : FS) = fs0 from rfl, h.go] at this
  exact this
theorem take_succ_get (s : List UInt8) (k : Nat) (hk : k < s.length) : s.take (k + 1) = s.take k ++ [s[k]] := List.take_succ_eq_append_getElem hk
theorem HearInv.next {s : List UInt8} {k b p : Nat} {hs : List (Nat × List UInt8)} {st : FS} (h : HearInv s k b p hs st) (hk : k < s.length) :
    feedGo fs0 (s.take (k + 1)) = ((feedS { st with text := (s.take (k + 1)).drop b }).1, hs ++ (feedS { st with text := (s.take (k + 1)).drop b }).2) := by
  rw [take_succ_get s k hk, feedGo_snoc _ _ _ (by rw [h.go]; exact h.deaf), h.go, feed1_eq, h.text, ← List.drop_append_of_le_length (by rw [List.length_take]; have := h.le1; omega)]
theorem text_len (s : List UInt8) (k b : Nat) (hk : k < s.length) : ((s.take (k + 1)).drop b).length = k + 1 - b := by
  rw [List.length_drop, List.length_take]; omega
theorem HearInv.inside {s : List UInt8} {k b p : Nat} {hs : List (Nat × List UInt8)} {st : FS} (h : HearInv s k b p hs st) (hk : k < s.length) (hp : k < p) : ∃ st', HearInv s (k + 1) b p hs st' := by
  have hn := h.next hk
  have hl := text_len s k b hk
  have h1 := h.le1
  have h3 := h.left
  rw [feedS] at hn
  simp only [show 0 < st.left by omega, if_true] at hn
  by_cases h4 : st.left = 1
  · simp only [h4, if_true, List.append_nil] at hn
    exact ⟨_, hn, h.deaf, by omega, h.le2, rfl, by show 0 = _; omega, fun _ => by show ((s.take (k + 1)).drop b).length = _; omega⟩
  · simp only [h4, if_false, List.append_nil] at hn
    exact ⟨_, hn, h.deaf, by omega, h.le2, rfl, by show st.left - 1 = _; omega, fun _ => by omega⟩
theorem drop_drop_take (s : List UInt8) (k b p : Nat) (hb : b ≤ p) : ((s.take k).drop b).drop (p - b) = (s.take k).drop p := by
  rw [List.drop_drop]; congr 1; omega
/-- does the part end with byte k? -/
theorem ends_iff (s : List UInt8) (k p : Nat) (hk : k < s.length) (hp : p ≤ k) : Lib.hasSuffix ((s.take (k + 1)).drop p) [13, 10] = (decide (p + 2 ≤ k + 1) && decide (s.getD (k - 1) 0 = 13) && decide (s.getD k 0 = 10)) := by
  have hl := text_len s k p hk
  by_cases h2 : p + 2 ≤ k + 1
  · obtain ⟨j, rfl⟩ : ∃ j, k = j + 1 := ⟨k - 1, by omega⟩
    have e : (s.take (j + 1 + 1)).drop p = (s.take j).drop p ++ [s[j], s[j + 1]] := by
      rw [take_succ_get s (j + 1) hk, take_succ_get s j (by omega), List.append_assoc, List.drop_append_of_le_length (by rw [List.length_take]; omega)]
      rfl
    rw [e, show j + 1 - 1 = j from rfl]
    have g1 : s.getD j 0 = s[j] := by rw [List.getD, List.getElem?_eq_getElem (by omega)]; rfl
    have g2 : s.getD (j + 1) 0 = s[j + 1] := by rw [List.getD, List.getElem?_eq_getElem hk]; rfl
    rw [g1, g2, Lib.hasSuffix, Bool.eq_iff_iff, List.isSuffixOf_iff_suffix]
    simp only [Bool.and_eq_true, decide_eq_true_eq, h2, true_and]
    constructor
    · rintro ⟨x, hx⟩
      have := (List.append_inj' hx rfl).2
      simp at this
      exact ⟨this.1.symm, this.2.symm⟩
    · rintro ⟨h3, h4⟩
      exact ⟨(s.take j).drop p, by rw [h3, h4]⟩
  · have : decide (p + 2 ≤ k + 1) = false := decide_eq_false h2
    rw [this]
    simp only [Bool.false_and]
    rw [Lib.hasSuffix]
    cases hx : List.isSuffixOf ([13, 10] : List UInt8) ((s.take (k + 1)).drop p) with
    | false => rfl
    | true =>
      have := (List.isSuffixOf_iff_suffix.1 hx).length_le
      simp only [hl, List.length_cons, List.length_nil] at this
      omega
structure Outside (s : List UInt8) (k b p : Nat) (hs : List (Nat × List UInt8)) (st S : FS) : Prop where
  inv : HearInv s k b p hs st
  lt : k < s.length
  le : p ≤ k
  text : S.text = (s.take (k + 1)).drop b
  part : S.part = p - b
  left : S.left = 0
  deaf : S.deaf = false
  go : feedGo fs0 (s.take (k + 1)) = ((feedS S).1, hs ++ (feedS S).2)
theorem HearInv.outside {s : List UInt8} {k b p : Nat} {hs : List (Nat × List UInt8)} {st : FS} (h : HearInv s k b p hs st) (hk : k < s.length) (hp : p ≤ k) : ∃ S, Outside s k b p hs st S :=
  ⟨{ st with text := (s.take (k + 1)).drop b }, h, hk, hp, rfl, h.part hp, by have := h.left; show st.left = 0; omega, h.deaf, h.next hk⟩
theorem Outside.ends {s : List UInt8} {k b p : Nat} {hs : List (Nat × List UInt8)} {st S : FS} (h : Outside s k b p hs st S) : endsL S = (decide (p + 2 ≤ k + 1) && decide (s.getD (k - 1) 0 = 13) && decide (s.getD k 0 = 10)) := by
  rw [endsL, h.text, h.part, drop_drop_take _ _ _ _ h.inv.le2, ends_iff s k p h.lt h.le]
theorem Outside.len {s : List UInt8} {k b p : Nat} {hs : List (Nat × List UInt8)} {st S : FS} (h : Outside s k b p hs st S) : S.text.length = k + 1 - b := by
  rw [h.text, text_len s k b h.lt]
theorem Outside.none_ {s : List UInt8} {k b p : Nat} {hs : List (Nat × List UInt8)} {st S : FS} (h : Outside s k b p hs st S) (he : endsL S = false) (h1 : k + 1 - p < 1000) (h2 : k + 1 - b < 8192) : ∃ st', HearInv s (k + 1) b p hs st' := by
  have hb := h.inv.le1
  have hb2 := h.inv.le2
  have hl := h.len
  have hv : feedS S = (S, []) := by
    rw [feedS, he, h.left, hl, h.part]
    simp
    omega
  have hg := h.go
  rw [hv, List.append_nil] at hg
  exact ⟨S, hg, h.deaf, by omega, hb2, h.text, by rw [h.left]; have := h.le; omega, fun _ => h.part⟩
theorem Outside.long {s : List UInt8} {k b p : Nat} {hs : List (Nat × List UInt8)} {st S : FS} (h : Outside s k b p hs st S) (he : endsL S = false) (h1 : 1000 ≤ k + 1 - p ∨ 8192 ≤ k + 1 - b) : (feedGo fs0 s).2 = hs ++ [(4, [])] ∧ (fin (feedGo fs0 s).1).left = 0 ∧ (fin (feedGo fs0 s).1).text = [] ∧ (fin (feedGo fs0 s).1).deaf = true := by
  have hb := h.inv.le1
  have hb2 := h.inv.le2
  have hl := h.len
  have hv : feedS S = ({ S with deaf := true }, [(4, [])]) := by
    rw [feedS, he, h.left, hl, h.part]
    simp
    omega
  have hg := h.go
  rw [hv] at hg
  have e : feedGo fs0 s = ({ S with deaf := true }, hs ++ [(4, [])]) := by
    rw [← List.take_append_drop (k + 1) s, feedGo_app, hg, feedGo_deaf _ _ rfl]
    simp
  rw [e]
  exact ⟨rfl, h.left, rfl, rfl⟩
/-- what stands ahead of the part's end -/
theorem Outside.words {s : List UInt8} {k b p : Nat} {hs : List (Nat × List UInt8)} {st S : FS} (h : Outside s k b p hs st S) (h2 : p + 2 ≤ k + 1) : S.text.take (S.text.length - 2) = (s.drop b).take (k - 1 - b) ∧ (S.text.take (S.text.length - 2)).drop S.part = (s.drop p).take (k - 1 - p) := by
  have hb2 := h.inv.le2
  have hk := h.lt
  have e : S.text.take (S.text.length - 2) = (s.take (k - 1)).drop b := by
    rw [h.len, h.text, List.take_drop, List.take_take]
    congr 2; omega
  rw [e, h.part, drop_drop_take _ _ _ _ hb2]
  rw [List.drop_take, List.drop_take]
  exact ⟨rfl, rfl⟩
theorem Outside.line {s : List UInt8} {k b p : Nat} {hs : List (Nat × List UInt8)} {st S : FS} (h : Outside s k b p hs st S) (he : endsL S = true) (h2 : p + 2 ≤ k + 1) (ha : awL ((s.drop p).take (k - 1 - p)) = none) : ∃ st', HearInv s (k + 1) (k + 1) (k + 1) (hs ++ [(1, (s.drop b).take (k - 1 - b))]) st' := by
  obtain ⟨e1, e2⟩ := h.words h2
  have hv : feedS S = ({ S with text := [], part := 0 }, [(1, (s.drop b).take (k - 1 - b))]) := by
    have hh : heardL S = ({ S with text := [], part := 0 }, 1, (s.drop b).take (k - 1 - b)) := by
      simp only [heardL]
      rw [e2, ha, e1]
    rw [feedS, he, h.left, hh]
    simp [h.left]
  have hg := h.go
  rw [hv] at hg
  refine ⟨_, hg, h.deaf, Nat.le_refl _, Nat.le_refl _, ?_, by rw [Nat.sub_self]; exact h.left, fun _ => (Nat.sub_self _).symm⟩
  show [] = _
  rw [List.drop_of_length_le (by rw [List.length_take]; omega)]
theorem Outside.big {s : List UInt8} {k b p n : Nat} {hs : List (Nat × List UInt8)} {st S : FS} (h : Outside s k b p hs st S) (he : endsL S = true) (h2 : p + 2 ≤ k + 1) (ha : awL ((s.drop p).take (k - 1 - p)) = some n) (hn : 4096 < n ∨ 8192 < k + 1 - b + n) : ∃ st', HearInv s (k + 1) (k + 1) (k + 1) (hs ++ [(3, (s.drop b).take (k - 1 - b))]) st' := by
  obtain ⟨e1, e2⟩ := h.words h2
  have hv : feedS S = ({ S with text := [], part := 0 }, [(3, (s.drop b).take (k - 1 - b))]) := by
    have hh : heardL S = ({ S with text := [], part := 0 }, 3, (s.drop b).take (k - 1 - b)) := by
      simp only [heardL]
      rw [e2, ha, e1, h.len]
      simp only
      rw [if_pos hn]
    rw [feedS, he, h.left, hh]
    simp [h.left]
  have hg := h.go
  rw [hv] at hg
  refine ⟨_, hg, h.deaf, Nat.le_refl _, Nat.le_refl _, ?_, by rw [Nat.sub_self]; exact h.left, fun _ => (Nat.sub_self _).symm⟩
  show [] = _
  rw [List.drop_of_length_le (by rw [List.length_take]; omega)]
theorem Outside.wait {s : List UInt8} {k b p n : Nat} {hs : List (Nat × List UInt8)} {st S : FS} (h : Outside s k b p hs st S) (he : endsL S = true) (h2 : p + 2 ≤ k + 1) (ha : awL ((s.drop p).take (k - 1 - p)) = some n) (hn : ¬ (4096 < n ∨ 8192 < k + 1 - b + n)) : ∃ st', HearInv s (k + 1) b (k + 1 + n) (hs ++ [(2, [])]) st' := by
  obtain ⟨e1, e2⟩ := h.words h2
  have hl := h.len
  have hb := h.inv.le1
  have hv : feedS S = ({ S with left := n, part := k + 1 - b }, [(2, [])]) := by
    have hh : heardL S = ({ S with left := n, part := k + 1 - b }, 2, []) := by
      simp only [heardL]
      rw [e2, ha, hl]
      simp only
      rw [if_neg hn]
    rw [feedS, he, h.left, hh]
    simp
  have hg := h.go
  rw [hv] at hg
  refine ⟨_, hg, h.deaf, by omega, by omega, h.text, by show n = _; omega, fun _ => by show k + 1 - b = _; omega⟩
theorem HearInv.finish {s : List UInt8} {b p : Nat} {hs : List (Nat × List UInt8)} {st : FS} (h : HearInv s s.length b p hs st) : (feedGo fs0 s).2 = hs ∧ (fin (feedGo fs0 s).1).left = p - s.length ∧ (fin (feedGo fs0 s).1).text.length = s.length - b ∧ (fin (feedGo fs0 s).1).deaf = false := by
  have hg := h.go
  rw [List.take_length] at hg
  rw [hg, fin_eq h.deaf]
  refine ⟨rfl, h.left, ?_, h.deaf⟩
  show st.text.length = _
  rw [h.text, List.take_length, List.length_drop]
theorem HearInv.near {s : List UInt8} {k b p : Nat} {hs : List (Nat × List UInt8)} {st : FS} (h : HearInv s k b p hs st) : p ≤ k + 4096 := by
  have := h.good.left
  have := h.left
  omega
end Go.Proofs.YtkocnldkimjonaaDoor
