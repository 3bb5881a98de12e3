/- MatchFlags: walked. -/
import Derived.Test.YtmlmkcpdgcojlaaDoorMaH
namespace Go.Proofs.YtmlmkcpdgcojlaaDoor
open Go.RowKit

def fkey (kind : Int) (f : ByteArray) (n : Nat) : KeyD := ⟨kind, 0, f, ⟨#[]⟩, n, none, 0, 0, noHas⟩
theorem whole_one (k : KeyD) (h : kidsL k = 0) : wholeL [k] = true := by
  have h1 : oneI [k] 2 0 1 = some 1 := by
    rw [oneI]
    show (if 0 < kidsL k ∧ 8 < 1 then none else if kidsL k < 0 then none else manyI (fun j => oneI [k] 1 j (1 + 1)) (kidsL k).toNat (0 + 1)) = some 1
    rw [h]; rfl
  rw [wholeL]
  show (decide ([k].length ≤ 32) && (oneI [k] 2 0 1 == some 1)) = true
  rw [h1]; rfl
theorem match_one (k : KeyD) (x : LetterD) (p : PlaceD) (m : List UInt8) (h : kidsL k = 0) (h1 : k.kind ≠ 1) (h2 : k.kind ≠ 2) (h3 : k.kind ≠ 3) : matchL [k] x p m = leafL k x p m := by
  rw [matchL, whole_one k h, Bool.true_and]
  show (saysI [k] (fun k => leafL k x p m) 2 0).1 = _
  rw [saysI]
  show (if k.kind = 1 then _ else if k.kind = 2 then _ else if k.kind = 3 then _ else (leafL k x p m, 0 + 1) : Bool × Nat).1 = _
  rw [if_neg h1, if_neg h2, if_neg h3]
theorem match_yes (f : ByteArray) (x : LetterD) (p : PlaceD) (m : List UInt8) : matchL [fkey 7 f 1] x p m = x.flag f := by
  rw [match_one _ _ _ _ (by rfl) (show (7 : Int) ≠ 1 by decide) (show (7 : Int) ≠ 2 by decide) (show (7 : Int) ≠ 3 by decide)]
  show (x.flag f == decide ((1 : Nat) = 1)) = _
  cases x.flag f <;> rfl
theorem match_no (f : ByteArray) (x : LetterD) (p : PlaceD) (m : List UInt8) : matchL [fkey 7 f 0] x p m = !x.flag f := by
  rw [match_one _ _ _ _ (by rfl) (show (7 : Int) ≠ 1 by decide) (show (7 : Int) ≠ 2 by decide) (show (7 : Int) ≠ 3 by decide)]
  show (x.flag f == decide ((0 : Nat) = 1)) = _
  cases x.flag f <;> rfl
theorem match_all (f : ByteArray) (x : LetterD) (p : PlaceD) (m : List UInt8) : matchL [fkey 4 f 0] x p m = true := by
  rw [match_one _ _ _ _ (by rfl) (show (4 : Int) ≠ 1 by decide) (show (4 : Int) ≠ 2 by decide) (show (4 : Int) ≠ 3 by decide)]
  rfl
theorem match_none (x : LetterD) (p : PlaceD) (m : List UInt8) : matchL [] x p m = false := rfl
/-- a mail: a letter whose flags lie in memory, a place, a text -/
def mailV (x : LetterD) (p : PlaceD) (s : ByteArray) : Value := .agg #[.int .u64 x.uid, .slice x.fa x.fn x.fc, .int .u64 x.md, .string x.hash, .int .u64 x.size, .int .u64 p.seq, .int .u64 p.mostSeq, .int .u64 p.mostUid, .string s]
/-- the flags tell, wherever nothing of w has turned -/
def FlagIn (w : World) (x : LetterD) : Prop := ∀ w', Below w.heap.size w w' → ∀ f : ByteArray, Calls Tryd.prog 21 #[.slice x.fa x.fn x.fc, .string f] w' fun e w'' => e = .returned (.bool (x.flag f)) ∧ w'' = w'
theorem asked_none {W : World} {x : LetterD} {m : Int} (hf : FlagIn W x) (hm : W.cell? ⟨0, 0, none⟩ = some (.int .i64 m)) : Asked W W.heap.size [] (.slice none 0 0) x m :=
  ⟨⟨none, 0, rfl, .inl rfl⟩, fun k hk => (by cases hk), hf, hm, heap_pos hm, fun k hk => (by cases hk), fun k hk => (by cases hk)⟩
theorem asked_one {W : World} {x : LetterD} {m : Int} {g : Nat} (kind : Int) (f : ByteArray) (n : Nat) (h5 : kind ≠ 5 ∧ kind ≠ 6 ∧ kind ≠ 11 ∧ kind ≠ 12 ∧ kind ≠ 13) (hf : FlagIn W x) (hm : W.cell? ⟨0, 0, none⟩ = some (.int .i64 m))
    (hg : W.heap[g]? = some (.cells #[.int .i64 kind, .int .i64 0, .string f, .string ⟨#[]⟩, .int .u64 n, .slice none 0 0] 36 (0, 0))) : Asked W W.heap.size [fkey kind f n] (.slice (some ⟨g, 0, none⟩) 1 1) x m := by
  have hc := cell_at hg
  refine ⟨⟨_, 1, rfl, .inr ⟨g, 0, rfl, (Array.getElem?_eq_some_iff.1 hg).1, Nat.le_refl _, fun j hj => ?_⟩⟩, fun k hk h => ?_, hf, hm, heap_pos hm, fun k hk h => ?_, fun k hk => ?_⟩
  · match j, hj with
    | 0, _ => exact ⟨hc 0, hc 1, hc 2, hc 3, hc 4, hc 5⟩
  · obtain rfl : k = fkey kind f n := by simpa using hk
    rcases h with h | h
    · exact absurd h h5.1
    · exact absurd h h5.2.1
  · obtain rfl : k = fkey kind f n := by simpa using hk
    rcases h with h | h | h
    · exact absurd h h5.2.2.1
    · exact absurd h h5.2.2.2.1
    · exact absurd h h5.2.2.2.2
  · obtain rfl : k = fkey kind f n := by simpa using hk
    show (0 : Int) ≤ _; decide
set_option maxRecDepth 100000 in
set_option maxHeartbeats 4000000 in
theorem matchFlags_any (f : ByteArray) (x : LetterD) (p : PlaceD) (s : ByteArray) (hs : s.size ≤ 9223372036854775807) (w : World) (hf : FlagIn w x) (hm : ∃ m, w.cell? ⟨0, 0, none⟩ = some (.int .i64 m)) :
    Calls Tryd.prog 5 #[.string f, mailV x p s] w fun e w' => e = .returned (.bool true) ∧ Below w.heap.size w w' := by
  obtain ⟨m, hm⟩ := hm
  have h0 := heap_pos hm
  unfold mailV
  have hsh := Lib.hid (short_none s hs)
  have hbW := (Below.refl _ w).alloc (Nat.le_refl _) (.cells #[.int .u64 x.uid, .slice x.fa x.fn x.fc, .int .u64 x.md, .string x.hash, .int .u64 x.size, .int .u64 p.seq, .int .u64 p.mostSeq, .int .u64 p.mostUid, .string s] 30)
  have hmb := Lib.hid (fun w' (h : Below w.heap.size w w') => (h.cell (p := ⟨0, 0, none⟩) (by show 0 < _; omega)).trans hm)
  have hfb := Lib.hid (fun w' (h : Below w.heap.size w w') => ((fun w2 h2 => hf w2 (h.trans (h2.mono h.size))) : FlagIn w' x))
  have hal := Lib.hid (fun w' (h : Below w.heap.size w w') => alive_any m w' (hmb.out w' h) (Nat.le_trans h0 h.size))
  by_cases hbig : s.size ≤ 4096
  · rw [decide_eq_true hbig] at hsh
    have hs4 : s.size ≤ 4194304 := by omega
    obtain ⟨W1, hW1⟩ : ∃ W1, W1 = w.alloc (.cells #[.int .u64 x.uid, .slice x.fa x.fn x.fc, .int .u64 x.md, .string x.hash, .int .u64 x.size, .int .u64 p.seq, .int .u64 p.mostSeq, .int .u64 p.mostUid, .string s] 30) := ⟨_, rfl⟩
    have hbW1 : Below w.heap.size w W1 := by rw [hW1]; exact hbW
    have hmailW1 : W1.heap[w.heap.size]? = some (.cells #[.int .u64 x.uid, .slice x.fa x.fn x.fc, .int .u64 x.md, .string x.hash, .int .u64 x.size, .int .u64 p.seq, .int .u64 p.mostSeq, .int .u64 p.mostUid, .string s] 30 (0, 0)) := by rw [hW1]; exact cells_new w _ _
    have hBA := hbW1.alloc hbW1.size (.cells #[.int .i64 7, .int .i64 0, .string f, .string ⟨#[]⟩, .int .u64 1, .slice none 0 0] 36)
    have hcA := match_any [fkey 7 f 1] _ x p s m (W1.alloc (.cells #[.int .i64 7, .int .i64 0, .string f, .string ⟨#[]⟩, .int .u64 1, .slice none 0 0] 36)) (by omega) (asked_one 7 f 1 (by decide) (hfb.out _ hBA) (hmb.out _ hBA) (cells_new W1 _ _))
    rw [match_yes] at hcA
    unfold letterV placeV at hcA
    replace hcA := Lib.hid hcA
    clear hm hf hbW
    go_enter Tryd.func5, Tryd.ntmps5
    go_wp2_with fail
    rw [← hW1]
    clear hW1
    have r0 := cell_at hmailW1 0
    have r1 := cell_at hmailW1 1
    have r2 := cell_at hmailW1 2
    have r3 := cell_at hmailW1 3
    have r4 := cell_at hmailW1 4
    have r5 := cell_at hmailW1 5
    have r6 := cell_at hmailW1 6
    have r7 := cell_at hmailW1 7
    have r8 := cell_at hmailW1 8
    refine (hsh.out W1).mono ?_
    rintro e w1 ⟨rfl, rfl⟩
    have s0 := cell_at (cells_kept hmailW1 (.cells #[.int .i64 7, .int .i64 0, .string f, .string ⟨#[]⟩, .int .u64 1, .slice none 0 0] 36)) 0
    have s1 := cell_at (cells_kept hmailW1 (.cells #[.int .i64 7, .int .i64 0, .string f, .string ⟨#[]⟩, .int .u64 1, .slice none 0 0] 36)) 1
    have s2 := cell_at (cells_kept hmailW1 (.cells #[.int .i64 7, .int .i64 0, .string f, .string ⟨#[]⟩, .int .u64 1, .slice none 0 0] 36)) 2
    have s3 := cell_at (cells_kept hmailW1 (.cells #[.int .i64 7, .int .i64 0, .string f, .string ⟨#[]⟩, .int .u64 1, .slice none 0 0] 36)) 3
    have s4 := cell_at (cells_kept hmailW1 (.cells #[.int .i64 7, .int .i64 0, .string f, .string ⟨#[]⟩, .int .u64 1, .slice none 0 0] 36)) 4
    have s5 := cell_at (cells_kept hmailW1 (.cells #[.int .i64 7, .int .i64 0, .string f, .string ⟨#[]⟩, .int .u64 1, .slice none 0 0] 36)) 5
    have s6 := cell_at (cells_kept hmailW1 (.cells #[.int .i64 7, .int .i64 0, .string f, .string ⟨#[]⟩, .int .u64 1, .slice none 0 0] 36)) 6
    have s7 := cell_at (cells_kept hmailW1 (.cells #[.int .i64 7, .int .i64 0, .string f, .string ⟨#[]⟩, .int .u64 1, .slice none 0 0] 36)) 7
    have s8 := cell_at (cells_kept hmailW1 (.cells #[.int .i64 7, .int .i64 0, .string f, .string ⟨#[]⟩, .int .u64 1, .slice none 0 0] 36)) 8
    go_wp2_with fail
    refine hcA.out.mono ?_
    rintro e W2 ⟨rfl, hb2⟩
    have hbW2 := hBA.trans (hb2.out.mono hBA.size)
    have hmailW2 := heap_below (cells_kept hmailW1 (.cells #[.int .i64 7, .int .i64 0, .string f, .string ⟨#[]⟩, .int .u64 1, .slice none 0 0] 36)) hb2.out
    clear hcA hb2 r0 s0 r1 s1 r2 s2 r3 s3 r4 s4 r5 s5 r6 s6 r7 s7 r8 s8
    have hBB := hbW2.alloc hbW2.size (.cells #[.int .i64 7, .int .i64 0, .string f, .string ⟨#[]⟩, .int .u64 0, .slice none 0 0] 36)
    have hcB := match_any [fkey 7 f 0] _ x p s m (W2.alloc (.cells #[.int .i64 7, .int .i64 0, .string f, .string ⟨#[]⟩, .int .u64 0, .slice none 0 0] 36)) (by omega) (asked_one 7 f 0 (by decide) (hfb.out _ hBB) (hmb.out _ hBB) (cells_new W2 _ _))
    rw [match_no] at hcB
    unfold letterV placeV at hcB
    replace hcB := Lib.hid hcB
    have r0 := cell_at hmailW2 0
    have r1 := cell_at hmailW2 1
    have r2 := cell_at hmailW2 2
    have r3 := cell_at hmailW2 3
    have r4 := cell_at hmailW2 4
    have r5 := cell_at hmailW2 5
    have r6 := cell_at hmailW2 6
    have r7 := cell_at hmailW2 7
    have r8 := cell_at hmailW2 8
    have s0 := cell_at (cells_kept hmailW2 (.cells #[.int .i64 7, .int .i64 0, .string f, .string ⟨#[]⟩, .int .u64 0, .slice none 0 0] 36)) 0
    have s1 := cell_at (cells_kept hmailW2 (.cells #[.int .i64 7, .int .i64 0, .string f, .string ⟨#[]⟩, .int .u64 0, .slice none 0 0] 36)) 1
    have s2 := cell_at (cells_kept hmailW2 (.cells #[.int .i64 7, .int .i64 0, .string f, .string ⟨#[]⟩, .int .u64 0, .slice none 0 0] 36)) 2
    have s3 := cell_at (cells_kept hmailW2 (.cells #[.int .i64 7, .int .i64 0, .string f, .string ⟨#[]⟩, .int .u64 0, .slice none 0 0] 36)) 3
    have s4 := cell_at (cells_kept hmailW2 (.cells #[.int .i64 7, .int .i64 0, .string f, .string ⟨#[]⟩, .int .u64 0, .slice none 0 0] 36)) 4
    have s5 := cell_at (cells_kept hmailW2 (.cells #[.int .i64 7, .int .i64 0, .string f, .string ⟨#[]⟩, .int .u64 0, .slice none 0 0] 36)) 5
    have s6 := cell_at (cells_kept hmailW2 (.cells #[.int .i64 7, .int .i64 0, .string f, .string ⟨#[]⟩, .int .u64 0, .slice none 0 0] 36)) 6
    have s7 := cell_at (cells_kept hmailW2 (.cells #[.int .i64 7, .int .i64 0, .string f, .string ⟨#[]⟩, .int .u64 0, .slice none 0 0] 36)) 7
    have s8 := cell_at (cells_kept hmailW2 (.cells #[.int .i64 7, .int .i64 0, .string f, .string ⟨#[]⟩, .int .u64 0, .slice none 0 0] 36)) 8
    go_wp2_with fail
    refine hcB.out.mono ?_
    rintro e W3 ⟨rfl, hb3⟩
    have hbW3 := hBB.trans (hb3.out.mono hBB.size)
    have hmailW3 := heap_below (cells_kept hmailW2 (.cells #[.int .i64 7, .int .i64 0, .string f, .string ⟨#[]⟩, .int .u64 0, .slice none 0 0] 36)) hb3.out
    clear hcB hb3 r0 s0 r1 s1 r2 s2 r3 s3 r4 s4 r5 s5 r6 s6 r7 s7 r8 s8
    go_wp2_with fail
    refine (hal.out W3 hbW3).mono ?_
    rintro e W4 ⟨rfl, hb4⟩
    have hbW4 := hbW3.trans (hb4.out.mono hbW3.size)
    have hmailW4 := heap_below hmailW3 hb4.out
    clear hb4
    have hBC := hbW4.alloc hbW4.size (.cells #[.int .i64 4, .int .i64 0, .string ⟨#[]⟩, .string ⟨#[]⟩, .int .u64 0, .slice none 0 0] 36)
    have hcC := match_any [fkey 4 ⟨#[]⟩ 0] _ x p s m (W4.alloc (.cells #[.int .i64 4, .int .i64 0, .string ⟨#[]⟩, .string ⟨#[]⟩, .int .u64 0, .slice none 0 0] 36)) (by omega) (asked_one 4 ⟨#[]⟩ 0 (by decide) (hfb.out _ hBC) (hmb.out _ hBC) (cells_new W4 _ _))
    rw [match_all] at hcC
    unfold letterV placeV at hcC
    replace hcC := Lib.hid hcC
    have r0 := cell_at hmailW4 0
    have r1 := cell_at hmailW4 1
    have r2 := cell_at hmailW4 2
    have r3 := cell_at hmailW4 3
    have r4 := cell_at hmailW4 4
    have r5 := cell_at hmailW4 5
    have r6 := cell_at hmailW4 6
    have r7 := cell_at hmailW4 7
    have r8 := cell_at hmailW4 8
    have s0 := cell_at (cells_kept hmailW4 (.cells #[.int .i64 4, .int .i64 0, .string ⟨#[]⟩, .string ⟨#[]⟩, .int .u64 0, .slice none 0 0] 36)) 0
    have s1 := cell_at (cells_kept hmailW4 (.cells #[.int .i64 4, .int .i64 0, .string ⟨#[]⟩, .string ⟨#[]⟩, .int .u64 0, .slice none 0 0] 36)) 1
    have s2 := cell_at (cells_kept hmailW4 (.cells #[.int .i64 4, .int .i64 0, .string ⟨#[]⟩, .string ⟨#[]⟩, .int .u64 0, .slice none 0 0] 36)) 2
    have s3 := cell_at (cells_kept hmailW4 (.cells #[.int .i64 4, .int .i64 0, .string ⟨#[]⟩, .string ⟨#[]⟩, .int .u64 0, .slice none 0 0] 36)) 3
    have s4 := cell_at (cells_kept hmailW4 (.cells #[.int .i64 4, .int .i64 0, .string ⟨#[]⟩, .string ⟨#[]⟩, .int .u64 0, .slice none 0 0] 36)) 4
    have s5 := cell_at (cells_kept hmailW4 (.cells #[.int .i64 4, .int .i64 0, .string ⟨#[]⟩, .string ⟨#[]⟩, .int .u64 0, .slice none 0 0] 36)) 5
    have s6 := cell_at (cells_kept hmailW4 (.cells #[.int .i64 4, .int .i64 0, .string ⟨#[]⟩, .string ⟨#[]⟩, .int .u64 0, .slice none 0 0] 36)) 6
    have s7 := cell_at (cells_kept hmailW4 (.cells #[.int .i64 4, .int .i64 0, .string ⟨#[]⟩, .string ⟨#[]⟩, .int .u64 0, .slice none 0 0] 36)) 7
    have s8 := cell_at (cells_kept hmailW4 (.cells #[.int .i64 4, .int .i64 0, .string ⟨#[]⟩, .string ⟨#[]⟩, .int .u64 0, .slice none 0 0] 36)) 8
    generalize x.flag f = Bf
    cases Bf
    all_goals (
      go_wp2_with fail
      refine hcC.out.mono ?_
      rintro e W5 ⟨rfl, hb5⟩
      have hbW5 := hBC.trans (hb5.out.mono hBC.size)
      have hmailW5 := heap_below (cells_kept hmailW4 (.cells #[.int .i64 4, .int .i64 0, .string ⟨#[]⟩, .string ⟨#[]⟩, .int .u64 0, .slice none 0 0] 36)) hb5.out
      have hcD := match_any [] _ x p s m W5 hs4 (asked_none (hfb.out _ hbW5) (hmb.out _ hbW5))
      rw [match_none] at hcD
      unfold letterV placeV at hcD
      replace hcD := Lib.hid hcD
      clear hcC hb5 r0 s0 r1 s1 r2 s2 r3 s3 r4 s4 r5 s5 r6 s6 r7 s7 r8 s8
      have r0 := cell_at hmailW5 0
      have r1 := cell_at hmailW5 1
      have r2 := cell_at hmailW5 2
      have r3 := cell_at hmailW5 3
      have r4 := cell_at hmailW5 4
      have r5 := cell_at hmailW5 5
      have r6 := cell_at hmailW5 6
      have r7 := cell_at hmailW5 7
      have r8 := cell_at hmailW5 8
      go_wp2_with fail
      refine hcD.out.mono ?_
      rintro e W6 ⟨rfl, hb6⟩
      have hbW6 := hbW5.trans (hb6.out.mono hbW5.size)
      go_wp2_with fail
      go_ret
      exact ⟨rfl, hbW6⟩)
  · rw [decide_eq_false hbig] at hsh
    replace hbW := Lib.hid hbW
    clear hm hf
    go_enter Tryd.func5, Tryd.ntmps5
    go_wp2_with fail
    refine (hsh.out _).mono ?_
    rintro e w1 ⟨rfl, rfl⟩
    go_wp2_with fail
    refine (hal.out _ hbW.out).mono ?_
    rintro e w2 ⟨rfl, hb2⟩
    have hB := hbW.out.trans (hb2.out.mono hbW.out.size)
    go_wp2_with fail
    go_ret
    exact ⟨rfl, hB⟩
end Go.Proofs.YtmlmkcpdgcojlaaDoor
