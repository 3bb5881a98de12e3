/- What a feeder makes of bytes, in plain lists. -/
import Derived.Test.YtkocnldkimjonaaDoorLinC
namespace Go.Proofs.YtkocnldkimjonaaDoor
open Go.RowKit

/-- one byte, fed to a feeder that is not deaf -/
def feed1 (st : FS) (c : UInt8) : FS × List (Nat × List UInt8) :=
  if 0 < st.left then ((if st.left = 1 then { st with text := st.text ++ [c], left := 0, part := st.text.length + 1 } else { st with text := st.text ++ [c], left := st.left - 1 }), [])
  else if endsL { st with text := st.text ++ [c] } then ((heardL { st with text := st.text ++ [c] }).1, [(heardL { st with text := st.text ++ [c] }).2])
  else if 1000 ≤ st.text.length + 1 - st.part ∨ 8192 ≤ st.text.length + 1 then ({ st with text := st.text ++ [c], deaf := true }, [(4, [])])
  else ({ st with text := st.text ++ [c] }, [])
/-- the same, the byte already with the text -/
def feedS (S : FS) : FS × List (Nat × List UInt8) :=
  if 0 < S.left then ((if S.left = 1 then { S with left := 0, part := S.text.length } else { S with left := S.left - 1 }), [])
  else if endsL S then ((heardL S).1, [(heardL S).2])
  else if 1000 ≤ S.text.length - S.part ∨ 8192 ≤ S.text.length then ({ S with deaf := true }, [(4, [])])
  else (S, [])
theorem feed1_eq (st : FS) (c : UInt8) : feed1 st c = feedS { st with text := st.text ++ [c] } := by
  simp [feed1, feedS]
/-- bytes, one behind the other, till the feeder is deaf -/
def feedGo : FS → List UInt8 → FS × List (Nat × List UInt8)
  | st, [] => (st, [])
  | st, c :: r => if st.deaf then (st, []) else ((feedGo (feed1 st c).1 r).1, (feed1 st c).2 ++ (feedGo (feed1 st c).1 r).2)
/-- what a deaf feeder keeps -/
def fin (st : FS) : FS := if st.deaf then { st with text := [], part := 0 } else st
theorem feedGo_deaf (st : FS) (l : List UInt8) (h : st.deaf = true) : feedGo st l = (st, []) := by cases l <;> simp [feedGo, h]
theorem feedGo_app : ∀ (l m : List UInt8) (st : FS), feedGo st (l ++ m) = ((feedGo (feedGo st l).1 m).1, (feedGo st l).2 ++ (feedGo (feedGo st l).1 m).2)
  | [], m, st => by simp [feedGo]
  | c :: r, m, st => by
    by_cases h : st.deaf = true
    · rw [feedGo_deaf st _ h, feedGo_deaf st _ h, feedGo_deaf st _ h]; rfl
    · rw [List.cons_append, feedGo, feedGo, if_neg h, if_neg h, feedGo_app r m]
      simp [List.append_assoc]
theorem feedGo_one (st : FS) (c : UInt8) (h : st.deaf = false) : feedGo st [c] = feed1 st c := by simp [feedGo, h]
theorem feedGo_snoc (st : FS) (l : List UInt8) (c : UInt8) (h : (feedGo st l).1.deaf = false) : feedGo st (l ++ [c]) = ((feed1 (feedGo st l).1 c).1, (feedGo st l).2 ++ (feed1 (feedGo st l).1 c).2) := by
  rw [feedGo_app, feedGo_one _ _ h]
/-- how a feeder may stand -/
structure Good (st : FS) : Prop where
  part : st.part ≤ st.text.length
  sum : st.deaf = false → st.text.length + st.left ≤ 8192
  len : st.text.length ≤ 8193
  left : st.left ≤ 4096
  deaf : st.deaf = true → st.left = 0
theorem Good.new : Good ⟨[], 0, 0, false⟩ := ⟨by simp, by simp, by simp, by simp, by simp⟩
theorem endsL_two {st : FS} (h : endsL st = true) : st.part + 2 ≤ st.text.length := by
  have h1 : ([13, 10] : List UInt8) <:+ st.text.drop st.part := by
    rw [endsL, Lib.hasSuffix, List.isSuffixOf_iff_suffix] at h; exact h
  have := h1.length_le
  simp at this
  omega
theorem heardL_cases (st : FS) : (∃ k t, heardL st = ({ st with text := [], part := 0 }, k, t)) ∨ ∃ n, n ≤ 4096 ∧ st.text.length + n ≤ 8192 ∧ heardL st = ({ st with left := n, part := st.text.length }, 2, []) := by
  cases h : awL ((st.text.take (st.text.length - 2)).drop st.part) with
  | none => exact .inl ⟨1, st.text.take (st.text.length - 2), by simp [heardL, h]⟩
  | some n =>
    by_cases hb : 4096 < n ∨ 8192 < st.text.length + n
    · exact .inl ⟨3, st.text.take (st.text.length - 2), by simp [heardL, h, hb]⟩
    · exact .inr ⟨n, by omega, by omega, by simp [heardL, h, hb]⟩
theorem Good.step {st : FS} (h : Good st) (c : UInt8) (hd : st.deaf = false) : Good (feed1 st c).1 := by
  have h1 := h.part
  have h2 := h.sum hd
  have h4 := h.left
  rw [feed1]
  split
  · split
    · exact ⟨by simp, by simp; omega, by simp; omega, by simp, by simp⟩
    · exact ⟨by simp; omega, by simp; omega, by simp; omega, by simp; omega, by simp [hd]⟩
  · split
    · rename_i hl he
      have h0 : st.left = 0 := by omega
      rcases heardL_cases { st with text := st.text ++ [c] } with ⟨k, t, e⟩ | ⟨n, hn, hs, e⟩
      · rw [e]; exact ⟨by simp, by simp [h0], by simp, by simp [h0], by simp [hd]⟩
      · rw [e]
        simp at hs
        exact ⟨by simp, by simp; omega, by simp; omega, by simp; omega, by simp [hd]⟩
    · split
      · exact ⟨by simp; omega, by simp, by simp; omega, by simp; omega, by simp; omega⟩
      · exact ⟨by simp; omega, by simp; omega, by simp; omega, by simp; omega, by simp [hd]⟩
theorem Good.go : ∀ (l : List UInt8) {st : FS}, Good st → Good (feedGo st l).1
  | [], _, h => h
  | c :: r, st, h => by
    rw [feedGo]
    split
    · exact h
    · rename_i hd
      exact Good.go r (h.step c (by simpa using hd))
theorem Good.fin {st : FS} (h : Good st) : Good (fin st) := by
  rw [Proofs.YtkocnldkimjonaaDoor.fin]
  split
  · rename_i hd
    exact ⟨by simp, by simp [hd], by simp, by simpa using h.left, by simpa using h.deaf⟩
  · exact h
theorem feed1_len (st : FS) (c : UInt8) : (feed1 st c).2.length ≤ 1 := by
  rw [feed1]; split <;> (try split) <;> (try split) <;> simp
theorem feedGo_len : ∀ (l : List UInt8) (st : FS), (feedGo st l).2.length ≤ l.length
  | [], _ => by simp [feedGo]
  | c :: r, st => by
    rw [feedGo]
    split
    · simp
    · have := feed1_len st c
      have := feedGo_len r (feed1 st c).1
      simp; omega
theorem fin_deaf (st : FS) : (fin st).deaf = st.deaf := by rw [fin]; split <;> rfl
theorem fin_fin (st : FS) : fin (fin st) = fin st := by
  cases st with | mk t p l d => cases d <;> rfl
theorem fin_eq {st : FS} (h : st.deaf = false) : fin st = st := by rw [fin, h]; rfl
/-- fed in two pieces the same is heard -/
theorem feedGo_fin (st : FS) (l : List UInt8) : fin (feedGo (fin st) l).1 = fin (feedGo st l).1 ∧ (feedGo (fin st) l).2 = (feedGo st l).2 := by
  cases h : st.deaf
  · rw [fin_eq h]; exact ⟨rfl, rfl⟩
  · rw [feedGo_deaf _ _ (by rw [fin_deaf]; exact h), feedGo_deaf _ _ h]
    exact ⟨fin_fin st, rfl⟩
end Go.Proofs.YtkocnldkimjonaaDoor
