/- Flag lists, plain: what lies between brackets, cut at spaces. -/
import Derived.Test.YtfglfoapgpghkaaDoorFdH
import Derived.Lib.Split
import Derived.Lib.SplitLaws
import Derived.Lib.IndexBytes
namespace Go.Proofs.YtfglfoapgpghkaaDoor
open Go.RowKit

/-- cut at each byte c -/
def spl (c : UInt8) : List UInt8 → List (List UInt8)
  | [] => [[]]
  | b :: l => if b = c then [] :: spl c l else match spl c l with
    | [] => [[b]]
    | x :: r => (b :: x) :: r
theorem spl_ne (c : UInt8) : ∀ l, spl c l ≠ []
  | [] => by simp [spl]
  | b :: l => by
    rw [spl]
    split
    · simp
    · split <;> simp
theorem spl_skip (c b : UInt8) (l : List UInt8) (h : b ≠ c) : ∃ x r, spl c l = x :: r ∧ spl c (b :: l) = (b :: x) :: r := by
  cases hs : spl c l with
  | nil => exact absurd hs (spl_ne c l)
  | cons x r => exact ⟨x, r, rfl, by rw [spl, if_neg h, hs]⟩
theorem spl_cut (c : UInt8) : ∀ (l : List UInt8) (i : Nat), Lib.indexByte l c = i → spl c l = l.take i :: spl c (l.drop (i + 1)) ∧ l.count c = 1 + (l.drop (i + 1)).count c ∧ i < l.length
  | [], i, h => by simp [Lib.indexByte] at h
  | b :: l, i, h => by
    rw [Lib.indexByte] at h
    by_cases hb : b = c
    · subst hb
      simp at h
      obtain rfl : i = 0 := by omega
      exact ⟨by simp [spl], by simp; omega, by simp⟩
    · rw [if_neg (by simpa using hb)] at h
      have hge := Lib.indexByte_ge l c
      by_cases hm : Lib.indexByte l c = -1
      · rw [hm] at h; simp at h
      · rw [if_neg (by simpa using hm)] at h
        obtain ⟨j, rfl⟩ : ∃ j, i = j + 1 := ⟨i - 1, by omega⟩
        obtain ⟨h1, h2, h3⟩ := spl_cut c l j (by omega)
        obtain ⟨x, r, e1, e2⟩ := spl_skip c b l hb
        rw [h1] at e1
        injection e1 with e3 e4
        refine ⟨by rw [e2, ← e3, ← e4]; rfl, ?_, by simp; omega⟩
        rw [List.drop_succ_cons, List.count_cons_of_ne (by simpa using hb)]
        exact h2
theorem spl_none (c : UInt8) : ∀ l : List UInt8, Lib.indexByte l c = -1 → spl c l = [l] ∧ l.count c = 0
  | [], _ => ⟨rfl, rfl⟩
  | b :: l, h => by
    rw [Lib.indexByte] at h
    have hge := Lib.indexByte_ge l c
    by_cases hb : b = c
    · subst hb; simp at h
    · rw [if_neg (by simpa using hb)] at h
      by_cases hm : Lib.indexByte l c = -1
      · obtain ⟨h1, h2⟩ := spl_none c l hm
        refine ⟨?_, by rw [List.count_cons_of_ne (by simpa using hb)]; exact h2⟩
        rw [spl, if_neg hb, h1]
      · rw [if_neg (by simpa using hm)] at h; omega
theorem splitK_spl (c : UInt8) : ∀ (k : Nat) (l : List UInt8), l.count c = k → Lib.splitK [c] 0 k l = spl c l
  | 0, l, h => by
    have : Lib.indexByte l c = -1 := by
      have hge := Lib.indexByte_ge l c
      by_cases hm : Lib.indexByte l c = -1
      · exact hm
      · have := (spl_cut c l (Lib.indexByte l c).toNat (by omega)).2.1
        omega
    rw [(spl_none c l this).1]; rfl
  | k + 1, l, h => by
    rw [Lib.splitK, Lib.index_one]
    by_cases hm : Lib.indexByte l c = -1
    · have := (spl_none c l hm).2; omega
    · have hge := Lib.indexByte_ge l c
      obtain ⟨h1, h2, h3⟩ := spl_cut c l (Lib.indexByte l c).toNat (by omega)
      rw [if_neg (by simpa using hm), h1, Nat.add_zero]
      congr 1
      exact splitK_spl c k _ (by simp only [List.length_singleton]; omega)
theorem splitB_spl (c : UInt8) (s : ByteArray) : (Lib.splitB ⟨#[c]⟩ 0 (Lib.countB s ⟨#[c]⟩) s).map (·.data.toList) = spl c s.data.toList := by
  rw [Lib.splitB_data]
  have e : Lib.countB s ⟨#[c]⟩ = s.data.toList.count c := Lib.count_one c s.data.toList
  rw [e]
  exact splitK_spl c _ _ rfl
theorem spl_len (c : UInt8) (l : List UInt8) : (spl c l).length ≤ l.length + 1 := by
  induction l with
  | nil => simp [spl]
  | cons b l ih =>
    rw [spl]
    split
    · simp; exact ih
    · split
      · simp
      · rename_i x r h; rw [h] at ih; simp at ih ⊢; omega
theorem spl_short (c : UInt8) (l : List UInt8) : ∀ x ∈ spl c l, x.length ≤ l.length := by
  induction l with
  | nil => simp [spl]
  | cons b l ih =>
    rw [spl]
    split
    · intro x hx
      rcases List.mem_cons.1 hx with rfl | hx
      · simp
      · have := ih x hx; simp; omega
    · split
      · simp
      · rename_i y r h
        rw [h] at ih
        intro x hx
        rcases List.mem_cons.1 hx with rfl | hx
        · have := ih y (by simp); simp; omega
        · have := ih x (by simp [hx]); simp; omega
/-- where the list ends: its closing bracket -/
def parseAt (s : List UInt8) : Option Nat := if Lib.indexByte s 41 < 1 then none else if s.headD 0 = 40 then some (Lib.indexByte s 41).toNat else none
def nameL (s : List UInt8) (i : Nat) : List (List UInt8) := if i = 1 then [] else spl 32 ((s.take i).drop 1)
def parseCode (s : List UInt8) : Nat := match parseAt s with
  | none => 4
  | some i => makeCode (nameL s i)
def parseSet (s : List UInt8) : List (List UInt8) := match parseAt s with
  | none => []
  | some i => makeSet (nameL s i)
def parseEnd (s : List UInt8) : Nat := match parseAt s with
  | none => 0
  | some i => if makeCode (nameL s i) = 0 then i + 1 else 0
def ParseRet (s : List UInt8) (w : World) (e : Ending) (w' : World) : Prop := ∃ v', e = .returned (.tuple #[v', .int .i64 (parseEnd s : Int), .int .i64 (parseCode s : Int)]) ∧ Hid (Rd w' v' (parseSet s).length ((parseSet s).map encStr)) ∧ Hid (Below w.heap.size w w')
end Go.Proofs.YtfglfoapgpghkaaDoor
