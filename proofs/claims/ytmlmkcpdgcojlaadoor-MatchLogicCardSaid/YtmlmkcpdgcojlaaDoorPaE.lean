/- Fields of a header, plain: lines, lines that go on, names and values. Nothing is walked but what strings.Split and strings.Trim give. -/
import Derived.Test.YtmlmkcpdgcojlaaDoorPaD
import Derived.Lib.Split
import Derived.Lib.SplitLaws
import Derived.Lib.IndexBytes
import Derived.Shelf.Strings.SlTrimAscii
namespace Go.Proofs.YtmlmkcpdgcojlaaDoor
open Go.RowKit

def encStr (l : List UInt8) : Value := .string ⟨l.toArray⟩
def mkB (l : List UInt8) : ByteArray := ⟨l.toArray⟩
theorem mkB_list (l : List UInt8) : (mkB l).data.toList = l := rfl
theorem encStr_mk (s : ByteArray) : Value.string s = encStr s.data.toList := rfl
def crlf : List UInt8 := [13, 10]
/-- the lines of a header -/
def linesL (h : List UInt8) : List (List UInt8) := Lib.splitK crlf 0 h.length h
theorem splitK_miss (k : Nat) (s : List UInt8) (h : Lib.index s crlf = -1) : Lib.splitK crlf 0 k s = [s] := by
  cases k with
  | zero => rfl
  | succ k => rw [Lib.splitK, if_pos (beq_iff_eq.2 h)]
theorem splitK_hit (k i : Nat) (s : List UInt8) (h : Lib.index s crlf = i) : Lib.splitK crlf 0 (k + 1) s = s.take i :: Lib.splitK crlf 0 k (s.drop (i + 2)) := by
  have hm : ¬ (Lib.index s crlf == -1) = true := fun e => by have := beq_iff_eq.1 e; omega
  rw [Lib.splitK, if_neg hm, h]; rfl
theorem splitK_fuel : ∀ (n k : Nat) (s : List UInt8), s.length ≤ n → Lib.count s crlf ≤ k → Lib.splitK crlf 0 k s = Lib.splitK crlf 0 (Lib.count s crlf) s
  | n, k, s, hn, hk => by
    rcases Lib.index_spec s crlf with ⟨h, _⟩ | ⟨i, h, hi, ho, _⟩
    · rw [splitK_miss k s h, splitK_miss _ s h]
    · have hr := Lib.index_room s crlf (by omega)
      have hr2 : i + 2 ≤ s.length := by rw [h] at hr; have e : crlf.length = 2 := rfl; omega
      have hc := Lib.count_hit (sub := crlf) (by decide) h
      have e : crlf.length = 2 := rfl
      rw [e] at hc
      obtain ⟨k, rfl⟩ : ∃ j, k = j + 1 := ⟨k - 1, by omega⟩
      obtain ⟨n, rfl⟩ : ∃ j, n = j + 1 := ⟨n - 1, by omega⟩
      have hl : (s.drop (i + 2)).length ≤ n := by rw [List.length_drop]; omega
      rw [splitK_hit k i s h, hc, Nat.add_comm 1, splitK_hit _ i s h, splitK_fuel n k _ hl (by omega)]
theorem count_bound : ∀ (n : Nat) (s : List UInt8), s.length ≤ n → Lib.count s crlf ≤ s.length
  | n, s, hn => by
    rcases Lib.index_spec s crlf with ⟨h, _⟩ | ⟨i, h, hi, ho, _⟩
    · rw [Lib.count_miss h]; omega
    · have hr := Lib.index_room s crlf (by omega)
      have hr2 : i + 2 ≤ s.length := by rw [h] at hr; have e : crlf.length = 2 := rfl; omega
      have hc := Lib.count_hit (sub := crlf) (by decide) h
      have e : crlf.length = 2 := rfl
      rw [e] at hc
      obtain ⟨n, rfl⟩ : ∃ j, n = j + 1 := ⟨n - 1, by omega⟩
      have hl : (s.drop (i + 2)).length ≤ n := by rw [List.length_drop]; omega
      have := count_bound n _ hl
      rw [hc]
      rw [List.length_drop] at this; omega
theorem linesL_count (s : List UInt8) : linesL s = Lib.splitK crlf 0 (Lib.count s crlf) s := splitK_fuel _ _ s (Nat.le_refl _) (count_bound _ s (Nat.le_refl _))
theorem linesL_miss {s : List UInt8} (h : Lib.index s crlf = -1) : linesL s = [s] := splitK_miss _ s h
theorem linesL_hit {s : List UInt8} {i : Nat} (h : Lib.index s crlf = i) : linesL s = s.take i :: linesL (s.drop (i + 2)) := by
  have hc := Lib.count_hit (sub := crlf) (by decide) h
  have e : crlf.length = 2 := rfl
  rw [e] at hc
  rw [linesL_count, hc, Nat.add_comm 1, splitK_hit _ i s h, linesL_count]
theorem flat_len : ∀ (n : Nat) (s : List UInt8), s.length ≤ n → (linesL s).flatten.length ≤ s.length ∧ (linesL s).length ≤ s.length + 1
  | n, s, hn => by
    rcases Lib.index_spec s crlf with ⟨h, _⟩ | ⟨i, h, hi, ho, _⟩
    · rw [linesL_miss h]; simp
    · have hr := Lib.index_room s crlf (by omega)
      have hr2 : i + 2 ≤ s.length := by rw [h] at hr; have e : crlf.length = 2 := rfl; omega
      obtain ⟨n, rfl⟩ : ∃ j, n = j + 1 := ⟨n - 1, by omega⟩
      have hl : (s.drop (i + 2)).length ≤ n := by rw [List.length_drop]; omega
      have := flat_len n _ hl
      rw [linesL_hit h]
      rw [List.length_drop] at this
      simp only [List.flatten_cons, List.length_append, List.length_cons, List.length_take]
      omega
theorem splitB_lines (s : ByteArray) : (Lib.splitB ⟨#[13, 10]⟩ 0 (Lib.countB s ⟨#[13, 10]⟩) s).map (·.data.toList) = linesL s.data.toList := by
  rw [Lib.splitB_data, linesL_count]; rfl
/-- what strings.Split gives: the lines -/
theorem split_lines (s : ByteArray) (hs : s.size ≤ 4194304) (m : Int) (w : World) (hm : w.cell? ⟨0, 0, none⟩ = some (.int .i64 m)) :
    Calls Tryd.prog 42 #[.string s, .string ⟨#[13, 10]⟩] w fun e w' => ∃ v, e = .returned v ∧ Hid (Rd w' v (linesL s.data.toList).length ((linesL s.data.toList).map encStr)) ∧ Hid (Below w.heap.size w w') := by
  refine (Tryd.strings_Split s ⟨#[13, 10]⟩ m w (by omega) hm (by decide)).mono ?_
  rintro e w' ⟨rfl, rfl⟩
  have hlen : (Lib.splitB ⟨#[13, 10]⟩ 0 (Lib.countB s ⟨#[13, 10]⟩) s).length = Lib.countB s ⟨#[13, 10]⟩ + 1 := Lib.splitB_all ⟨#[13, 10]⟩ (by decide) 0 _ s rfl
  have hsp := splitB_lines s
  have hl2 : (linesL s.data.toList).length = Lib.countB s ⟨#[13, 10]⟩ + 1 := by rw [← hsp, List.length_map, hlen]
  refine ⟨_, rfl, Lib.hid ?_, Lib.hid ((Below.refl _ _).alloc (Nat.le_refl _) _)⟩
  rw [hl2]
  refine ⟨_, _, rfl, .inr ⟨w.heap.size, 0, rfl, by simp, Nat.le_refl _, fun i u hu => ?_⟩⟩
  rw [← hsp, List.map_map] at hu
  have e1 : ((Lib.splitB ⟨#[13, 10]⟩ 0 (Lib.countB s ⟨#[13, 10]⟩) s).map Value.string)[i]? = some u := hu
  simp only [Nat.zero_add]
  have : (w.alloc (.cells ((Lib.splitB ⟨#[13, 10]⟩ 0 (Lib.countB s ⟨#[13, 10]⟩) s).map Value.string).toArray 9)).cell? ⟨w.heap.size, i, none⟩ = ((Lib.splitB ⟨#[13, 10]⟩ 0 (Lib.countB s ⟨#[13, 10]⟩) s).map Value.string)[i]? := by
    unfold World.cell?
    simp only [heap_alloc_new]
    simp
  rw [this]
  exact e1
/-- strings.Trim of blanks and tabs -/
theorem trim_bl (s : ByteArray) (hs : s.size ≤ 140737488355328) (w : World) :
    Calls Tryd.prog 39 #[.string s, .string ⟨#[32, 9]⟩] w fun e w' => e = .returned (.string ⟨(Lib.trimS s.data.toList [32, 9]).toArray⟩) ∧ Below w.heap.size w w' :=
  Any.strings_Trim_laid Tryd.lays160 (by kernel_rfl) s ⟨#[32, 9]⟩ w (by omega) (by decide) (ascii_of_all (by decide))

def isBl (c : UInt8) : Bool := c == 32 || c == 9
/-- does a line go on with the one before? -/
def goesOn : List UInt8 → Bool
  | [] => false
  | c :: _ => isBl c
def unfStep (out : List (List UInt8)) (l : List UInt8) : List (List UInt8) :=
  if out ≠ [] ∧ goesOn l = true then out.dropLast ++ [out.getLastD [] ++ l] else out ++ [l]
def unfL (ls : List (List UInt8)) : List (List UInt8) := ls.foldl unfStep []
theorem unfL_snoc (ls : List (List UInt8)) (l : List UInt8) : unfL (ls ++ [l]) = unfStep (unfL ls) l := by simp [unfL]
theorem unfL_succ {ls : List (List UInt8)} {k : Nat} (h : k < ls.length) : unfL (ls.take (k + 1)) = unfStep (unfL (ls.take k)) ls[k] := by
  rw [List.take_succ_eq_append_getElem h, unfL_snoc]
theorem unfStep_yes {out : List (List UInt8)} {l : List UInt8} (h : out ≠ []) (h2 : goesOn l = true) : unfStep out l = out.set (out.length - 1) (out.getD (out.length - 1) [] ++ l) := by
  rw [unfStep, if_pos ⟨h, h2⟩]
  obtain ⟨r, x, rfl⟩ : ∃ r x, out = r ++ [x] := ⟨out.dropLast, out.getLast h, (List.dropLast_concat_getLast h).symm⟩
  simp
theorem unfStep_no {out : List (List UInt8)} {l : List UInt8} (h : ¬ (out ≠ [] ∧ goesOn l = true)) : unfStep out l = out ++ [l] := by rw [unfStep, if_neg h]
theorem unfStep_flat (out : List (List UInt8)) (l : List UInt8) : (unfStep out l).flatten = out.flatten ++ l ∧ (unfStep out l).length ≤ out.length + 1 := by
  rw [unfStep]
  split
  · rename_i h
    obtain ⟨r, x, rfl⟩ : ∃ r x, out = r ++ [x] := ⟨out.dropLast, out.getLast h.1, (List.dropLast_concat_getLast h.1).symm⟩
    simp
  · simp
theorem unfL_flat (ls : List (List UInt8)) : (unfL ls).flatten = ls.flatten ∧ (unfL ls).length ≤ ls.length := by
  have key : ∀ (ls out : List (List UInt8)), (ls.foldl unfStep out).flatten = out.flatten ++ ls.flatten ∧ (ls.foldl unfStep out).length ≤ out.length + ls.length := by
    intro ls
    induction ls with
    | nil => intro out; simp
    | cons l ls ih =>
      intro out
      have h1 := unfStep_flat out l
      have h2 := ih (unfStep out l)
      rw [List.foldl_cons]
      refine ⟨by rw [h2.1, h1.1]; simp, by have := h2.2; have := h1.2; simp; omega⟩
  have := key ls []
  simpa [unfL] using this
theorem mem_flat_len {ls : List (List UInt8)} {x : List UInt8} (h : x ∈ ls) : x.length ≤ ls.flatten.length := by
  induction ls with
  | nil => simp at h
  | cons l ls ih =>
    rcases List.mem_cons.1 h with rfl | h
    · simp
    · have := ih h
      simp only [List.flatten_cons, List.length_append]
      omega
theorem take_flat_len (ls : List (List UInt8)) (k : Nat) : (ls.take k).flatten.length ≤ ls.flatten.length := by
  have h : ls.flatten = (ls.take k).flatten ++ (ls.drop k).flatten := by rw [← List.flatten_append, List.take_append_drop]
  rw [h, List.length_append]; omega
/-- the field of a line -/
def fieldL (l : List UInt8) : Option (List UInt8 × List UInt8) :=
  if (Lib.cut l [58]).2.2 = true ∧ (Lib.cut l [58]).1 ≠ [] then some ((Lib.cut l [58]).1, Lib.trimS (Lib.cut l [58]).2.1 [32, 9]) else none
def fieldLines (m : List UInt8) : List (List UInt8) := unfL (linesL (splitM m).1)
def fieldsL (m : List UInt8) : List (List UInt8 × List UInt8) := (fieldLines m).filterMap fieldL
def fieldVal (m n : List UInt8) : Option (List UInt8) := ((fieldsL m).find? fun p => upL p.1 == upL n).map (·.2)
theorem split_len (m : List UInt8) : (splitM m).1.length ≤ m.length := by
  rw [splitM]
  split
  · rw [List.length_take]; omega
  · split
    · exact Nat.le_refl _
    · rw [List.length_take]; omega
theorem fieldLines_len (m : List UInt8) : (fieldLines m).length ≤ m.length + 1 ∧ (fieldLines m).flatten.length ≤ m.length := by
  have h1 := unfL_flat (linesL (splitM m).1)
  have h2 := flat_len _ (splitM m).1 (Nat.le_refl _)
  have h3 := split_len m
  refine ⟨by have := h1.2; rw [fieldLines]; omega, by rw [fieldLines, h1.1]; omega⟩
end Go.Proofs.YtmlmkcpdgcojlaaDoor
