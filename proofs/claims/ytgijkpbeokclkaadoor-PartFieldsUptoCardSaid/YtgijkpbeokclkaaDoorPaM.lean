/- plain: letters and digits; PartFirst: plain law and walk. -/
import Derived.Test.YtgijkpbeokclkaaDoorPaL
namespace Go.Proofs.YtgijkpbeokclkaaDoor
open Go.RowKit

def isP (c : UInt8) : Bool := (decide (97 ≤ c.toNat) && decide (c.toNat ≤ 122)) || (decide (65 ≤ c.toNat) && decide (c.toNat ≤ 90)) || (decide (48 ≤ c.toNat) && decide (c.toNat ≤ 57))
def plainL (l : List UInt8) : List UInt8 := l.filter isP
theorem plainL_succ {s : ByteArray} {k : Nat} (h : k < s.size) : plainL (s.data.toList.take (k + 1)) = plainL (s.data.toList.take k) ++ (if isP s[k] = true then [s[k]] else []) := by
  rw [take_snoc s k h, plainL, List.filter_append, plainL]
  congr 1
  by_cases hp : isP s[k] = true
  · rw [if_pos hp]; simp [hp]
  · rw [if_neg hp]; simp [hp]
theorem plain_len (l : List UInt8) : (plainL l).length ≤ l.length := List.length_filter_le _ _
set_option maxRecDepth 100000 in
set_option maxHeartbeats 2000000 in
theorem plain_any (s : ByteArray) (hs : s.size ≤ 4194304) (w : World) :
    Calls Tryd.prog 15 #[.string s] w (RetL (plainL s.data.toList) w) := by
  have hu8 : (Tryd.prog.info? 5).map (fun i => (i.zero, i.size, i.bytes)) = some (some (.int .u8 0), 1, 1) := by kernel_rfl
  go_enter Tryd.func15, Tryd.ntmps15
  go_wp2_with fail
  go_loopw [3, 4] (fun v i wr => ∃ k : Nat, k ≤ s.size ∧ i = .int .i64 k ∧ Hid (OwnBytes wr w.heap.size 5 v (plainL (s.data.toList.take k))) ∧ Hid (Below w.heap.size w wr)) (fun _ i _ => s.size - (intOf i).toNat)
  case atStart => exact ⟨0, Nat.zero_le _, rfl, Lib.hid (OwnBytes.nil _ _ _), Lib.hid (Below.refl _ _)⟩
  case round =>
    obtain ⟨k, hk, rfl, hown, hb⟩ := hrel
    by_cases hlt : k < s.size
    · have hnx := plainL_succ hlt
      have hsz := hb.out.size
      have hol : (plainL (s.data.toList.take k)).length ≤ k := by have := plain_len (s.data.toList.take k); rw [List.length_take] at this; omega
      generalize plainL (s.data.toList.take k) = o at hown hnx hol
      generalize hC : s[k] = C at hnx
      by_cases hp : isP C = true
      · rw [if_pos hp] at hnx
        have hcs : (97 ≤ (C.toNat : Int) ∧ (C.toNat : Int) ≤ 122) ∨ (65 ≤ (C.toNat : Int) ∧ (C.toNat : Int) ≤ 90) ∨ (48 ≤ (C.toNat : Int) ∧ (C.toNat : Int) ≤ 57) := by
          simp only [isP, Bool.or_eq_true, Bool.and_eq_true, decide_eq_true_eq] at hp
          omega
        have hn2 : Hid (plainL (s.data.toList.take (k + 1)) = o ++ [C]) := Lib.hid hnx
        clear hp hnx
        rcases hcs with ⟨h1, h2⟩ | ⟨h1, h2⟩ | ⟨h1, h2⟩
        all_goals (
          go_wp2_with (at_builtin; refine wpList_append_byte rfl (.tmp 37) (.tmp 39) 50 rfl w.heap.size 5 Tryd.underlying50 hu8 _ o wr.heap.size _ C rfl rfl (hown.out.alloc _) (by simp) rfl (by omega) (by simp; omega) ?_)
          intro v4 w4 ho4 hg4
          have hb4 := Lib.hid ((hb.out.alloc hb.out.size _).grown hg4 (by simp; omega) (fun j hj => (hown.out.lt j hj).1))
          rw [← hn2.out] at ho4
          replace ho4 := Lib.hid ho4
          clear hg4
          go_wp2_with fail
          go_roundw
          case rel => exact ⟨k + 1, by omega, by go_num, ho4, hb4⟩
          case measure => simp [intOf]; omega)
      · rw [if_neg hp, List.append_nil] at hnx
        have hcs : 122 < (C.toNat : Int) ∨ (90 < (C.toNat : Int) ∧ (C.toNat : Int) < 97) ∨ (57 < (C.toNat : Int) ∧ (C.toNat : Int) < 65) ∨ (C.toNat : Int) < 48 := by
          simp only [isP, Bool.or_eq_true, Bool.and_eq_true, decide_eq_true_eq] at hp
          omega
        rw [← hnx] at hown
        clear hp hnx
        rcases hcs with h1 | ⟨h1, h2⟩ | ⟨h1, h2⟩ | h1
        all_goals (
          go_wp2_with fail
          go_roundw
          case rel => exact ⟨k + 1, by omega, by go_num, hown, hb⟩
          case measure => simp [intOf]; omega)
    · obtain rfl : k = s.size := by omega
      rw [take_all] at hown
      obtain ⟨a, c, rfl⟩ := hown.out.len
      have kb := hown.out.back (P := Tryd.prog) 50 9 Tryd.underlying50 Tryd.underlying5 Tryd.underlying9
      go_wp2_with fail
      go_ret
      exact ⟨_, rfl, Lib.hid rfl, hb⟩
theorem isP_ne {c : UInt8} (h : isP c = true) : c ≠ 13 ∧ c ≠ 58 ∧ isBl c = false := by
  refine ⟨fun e => ?_, fun e => ?_, ?_⟩
  · subst e; revert h; decide
  · subst e; revert h; decide
  · cases hb : isBl c
    · rfl
    · rw [isBl, Bool.or_eq_true, beq_iff_eq, beq_iff_eq] at hb
      rcases hb with rfl | rfl <;> (revert h; decide)
theorem atL_head {s : List UInt8} {i : Nat} {c : UInt8} {u : List UInt8} (h : atL s i (c :: u) = true) : s[i]? = some c := Lib.occAt_head (sub := c :: u) rfl h
theorem goesOn_take (m : List UInt8) (k : Nat) (h : goesOn m = false) : goesOn (m.take k) = false := by
  cases m with
  | nil => simpa using h
  | cons c r => cases k with
    | zero => rfl
    | succ k => exact h
theorem lines_head (s : List UInt8) : ∃ k r, linesL s = s.take k :: r := by
  rcases Lib.index_spec s crlf with ⟨h, _⟩ | ⟨i, h, _⟩
  · exact ⟨s.length, [], by rw [linesL_miss h, List.take_length]⟩
  · exact ⟨i, _, linesL_hit h⟩
theorem unf_head (P : List UInt8) : ∀ (ls : List (List UInt8)) (x : List UInt8) (out : List (List UInt8)), ∃ r, ls.foldl unfStep (P :: x :: out) = P :: r
  | [], x, out => ⟨_, rfl⟩
  | l :: ls, x, out => by
    rw [List.foldl_cons, unfStep]
    split
    · have e : (P :: x :: out).dropLast ++ [(P :: x :: out).getLastD [] ++ l] = P :: ((x :: out).dropLast ++ [(P :: x :: out).getLastD [] ++ l]) := by simp
      rw [e]
      generalize hz : (x :: out).dropLast ++ [(P :: x :: out).getLastD [] ++ l] = z
      cases z with
      | nil => simp at hz
      | cons y z => exact unf_head P ls y z
    · exact unf_head P ls x (out ++ [l])
theorem first_line {P m : List UInt8} (hP : ∀ c ∈ P, c ≠ 13) (hm : goesOn m = false) : ∃ r, unfL (linesL (P ++ [13, 10] ++ m)) = P :: r := by
  have hix : Lib.index (P ++ [13, 10] ++ m) crlf = P.length := by
    refine Lib.index_first (by simp) ?_ (fun j hj => ?_)
    · show atL _ _ _ = true
      rw [atL, List.append_assoc, List.drop_left' rfl, crlf]; rfl
    · cases ha : Lib.occAt (P ++ [13, 10] ++ m) crlf j
      · rfl
      · have := atL_head (u := [10]) ha
        rw [List.append_assoc, List.getElem?_append_left hj, List.getElem?_eq_getElem hj] at this
        exact absurd (Option.some.inj this) (hP _ (List.getElem_mem hj))
  rw [linesL_hit hix]
  have e1 : (P ++ [13, 10] ++ m).take P.length = P := by rw [List.append_assoc, List.take_left' rfl]
  have e2 : (P ++ [13, 10] ++ m).drop (P.length + 2) = m := List.drop_left' (by simp)
  rw [e1, e2]
  obtain ⟨k, r, hr⟩ := lines_head m
  rw [hr, unfL, List.foldl_cons, List.foldl_cons]
  have e3 : unfStep [] P = [P] := by rw [unfStep_no (fun h => h.1 rfl)]; rfl
  have e4 : unfStep [P] (m.take k) = [P, m.take k] := by rw [unfStep_no (fun h => by rw [goesOn_take m k hm] at h; cases h.2)]; rfl
  rw [e3, e4]
  exact unf_head P r _ []
theorem header_of {P m : List UInt8} (hP : ∀ c ∈ P, c ≠ 13) (hne : P ≠ []) (hm : goesOn m = false) : ∃ m', goesOn m' = false ∧ (splitM (P ++ [13, 10] ++ m)).1 = P ++ [13, 10] ++ m' := by
  have h0 : atL (P ++ [13, 10] ++ m) 0 [13, 10] = false := by
    cases ha : atL (P ++ [13, 10] ++ m) 0 [13, 10]
    · rfl
    · have := atL_head (u := [10]) ha
      cases P with
      | nil => exact absurd rfl hne
      | cons c r =>
        have e : c = 13 := by simpa using this
        exact absurd e (hP c (by simp))
  rw [splitM, if_neg (by rw [h0]; simp)]
  split
  · exact ⟨m, hm, rfl⟩
  · rename_i hI
    rcases Lib.index_spec (P ++ [13, 10] ++ m) [13, 10, 13, 10] with ⟨h, _⟩ | ⟨i, h, hi, ho, _⟩
    · exact absurd h hI
    · have hge : P.length ≤ i := by
        rcases Nat.lt_or_ge i P.length with hlt | hge
        · have := atL_head (u := [10, 13, 10]) ho
          rw [List.append_assoc, List.getElem?_append_left hlt, List.getElem?_eq_getElem hlt] at this
          exact absurd (Option.some.inj this) (hP _ (List.getElem_mem hlt))
        · exact hge
      rw [h]
      refine ⟨m.take (i + 4 - (P.length + 2)), goesOn_take _ _ hm, ?_⟩
      show (P ++ [13, 10] ++ m).take (i + 4) = _
      have e : i + 4 = (P ++ [13, 10]).length + (i + 4 - (P.length + 2)) := by simp; omega
      rw [e, List.take_length_add_append]
      congr 2
      simp
theorem trim_plain {v : List UInt8} (hv : ∀ c ∈ v, isBl c = false) : Lib.trimS v [32, 9] = v := by
  have key : ∀ l : List UInt8, (∀ c ∈ l, isBl c = false) → l.dropWhile (([32, 9] : List UInt8).contains ·) = l := by
    intro l hl
    cases l with
    | nil => rfl
    | cons c r =>
      have := hl c (by simp)
      rw [isBl, Bool.or_eq_false_iff] at this
      rw [List.dropWhile_cons_of_neg]
      simp only [List.contains_cons, List.contains_nil, this.1, this.2]; decide
  rw [Lib.trimS, Lib.trimLeftS, Lib.trimRightS, key v.reverse (fun c hc => hv c (List.mem_reverse.1 hc)), List.reverse_reverse, key v hv]
theorem field_line {n v : List UInt8} (hn : ∀ c ∈ n, c ≠ 58) (hne : n ≠ []) (hv : ∀ c ∈ v, isBl c = false) : fieldL (n ++ [58] ++ v) = some (n, v) := by
  have hix : Lib.index (n ++ [58] ++ v) [58] = n.length := by
    refine Lib.index_first (by simp) ?_ (fun j hj => ?_)
    · show atL _ _ _ = true
      rw [atL, List.append_assoc, List.drop_left' rfl]; rfl
    · cases ha : Lib.occAt (n ++ [58] ++ v) [58] j
      · rfl
      · have := atL_head (u := []) ha
        rw [List.append_assoc, List.getElem?_append_left hj, List.getElem?_eq_getElem hj] at this
        exact absurd (Option.some.inj this) (hn _ (List.getElem_mem hj))
  have hcut : Lib.cut (n ++ [58] ++ v) [58] = (n, v, true) := by
    rw [Lib.cut, hix, if_pos (by omega)]
    have e1 : (n ++ [58] ++ v).take n.length = n := by rw [List.append_assoc, List.take_left' rfl]
    have e2 : (n ++ [58] ++ v).drop (n.length + 1) = v := List.drop_left' (by simp)
    show ((n ++ [58] ++ v).take n.length, (n ++ [58] ++ v).drop (n.length + 1), true) = _
    rw [e1, e2]
  rw [fieldL, hcut, if_pos ⟨rfl, hne⟩, trim_plain hv]
theorem first_field {n v m : List UInt8} (hn : ∀ c ∈ n, isP c = true) (hne : n ≠ []) (hv : ∀ c ∈ v, isP c = true) (hm : goesOn m = false) : fieldVal (n ++ [58] ++ v ++ [13, 10] ++ m) n = some v := by
  have hP : ∀ c ∈ n ++ [58] ++ v, c ≠ 13 := by
    intro c hc
    rcases List.mem_append.1 hc with hc | hc
    · rcases List.mem_append.1 hc with hc | hc
      · exact (isP_ne (hn c hc)).1
      · have : c = 58 := by simpa using hc
        subst this; decide
    · exact (isP_ne (hv c hc)).1
  obtain ⟨m', hm', hh⟩ := header_of hP (by simp) hm
  obtain ⟨r, hr⟩ := first_line hP hm'
  have hf := field_line (fun c hc => (isP_ne (hn c hc)).2.1) hne (fun c hc => (isP_ne (hv c hc)).2.2)
  rw [fieldVal, fieldsL, fieldLines, hh, hr, List.filterMap_cons, hf]
  simp
theorem plain_isP {l : List UInt8} : ∀ c ∈ plainL l, isP c = true := fun _ hc => (List.mem_filter.1 hc).2
end Go.Proofs.YtgijkpbeokclkaaDoor
