/- Flags in plain lists: as they are kept, and their order. -/
import Derived.Test.YtfglfoapgpghkaaDoorLow
import Derived.Test.YtfglfoapgpghkaaDoorSetP
import Derived.Test.YtfglfoapgpghkaaDoorRd
namespace Go.Proofs.YtfglfoapgpghkaaDoor
open Go.RowKit

def sysL : List (List UInt8) := [[92, 65, 110, 115, 119, 101, 114, 101, 100], [92, 70, 108, 97, 103, 103, 101, 100], [92, 68, 101, 108, 101, 116, 101, 100], [92, 83, 101, 101, 110], [92, 68, 114, 97, 102, 116]]
def keyB (l : List UInt8) : Bool := allS atomB l && decide (l.length ≤ 32)
/-- a flag as it is kept -/
def canonL (s : List UInt8) : Option (List UInt8) := match sysL.find? (fun f => upL f == upL s) with
  | some f => some f
  | none => if keyB s then some (lowL s) else none
def placeL (f : List UInt8) : Nat := sysL.idxOf f
def fcmp (a b : List UInt8) : Int := if placeL a = placeL b then Lib.compareBytes a b else (placeL a : Int) - placeL b
def flt (a b : List UInt8) : Bool := decide (fcmp a b < 0)
theorem flt_eq (a b : List UInt8) : flt a b = if placeL a = placeL b then bytesBefore a b else decide (placeL a < placeL b) := by
  rw [flt, fcmp]
  split
  · exact cmp_lt a b
  · rw [decide_eq_decide]; omega
theorem flt_sto : STO flt := by
  refine ⟨fun a => by rw [flt_eq, if_pos rfl]; exact bytes_sto.irr a, fun a b c h1 h2 => ?_, fun a b h => ?_⟩
  · rw [flt_eq] at h1 h2 ⊢
    by_cases e1 : placeL a = placeL b
    · rw [if_pos e1] at h1
      by_cases e2 : placeL b = placeL c
      · rw [if_pos e2] at h2
        rw [if_pos (e1.trans e2)]
        exact bytes_sto.trans _ _ _ h1 h2
      · rw [if_neg e2] at h2
        rw [if_neg (by omega)]
        rw [e1]; exact h2
    · rw [if_neg e1] at h1
      by_cases e2 : placeL b = placeL c
      · rw [if_pos e2] at h2
        rw [if_neg (by omega), ← e2]; exact h1
      · rw [if_neg e2] at h2
        simp only [decide_eq_true_eq] at h1 h2
        rw [if_neg (by omega)]
        simp only [decide_eq_true_eq]; omega
  · rw [flt_eq, flt_eq]
    by_cases e1 : placeL a = placeL b
    · rw [if_pos e1, if_pos e1.symm]
      exact bytes_sto.tot a b h
    · rw [if_neg e1, if_neg (fun e => e1 e.symm)]
      simp only [decide_eq_true_eq]; omega
def fset (l : List (List UInt8)) : List (List UInt8) := setS flt l
theorem placeL_le (f : List UInt8) : placeL f ≤ 5 := List.idxOf_le_length
theorem encStr_mk (s : ByteArray) : Value.string s = encStr s.data.toList := rfl
theorem eq_str (u v : ByteArray) : (u.toList == v.toList) = (u.data.toList == v.data.toList) := by rw [ByteArray.toList_eq, ByteArray.toList_eq]
/-- the call laid blocks, and drew, and nothing else -/
def Lays (w : World) (w' : World) : Prop := ∃ os : Array Obj, w' = Sort.grow w os
theorem Lays.below {w w' : World} (h : Lays w w') : Below w.heap.size w w' := by
  obtain ⟨os, rfl⟩ := h
  exact ⟨rfl, rfl, rfl, by simp [Sort.grow], fun k hk => by simp [Sort.grow, Array.getElem?_append, hk]⟩
theorem Lays.alloc (w : World) (o : Obj) : Lays w (w.alloc o) := ⟨#[o], Sort.alloc_eq_grow w o⟩
theorem Lays.trans {a b c : World} (h : Lays a b) (k : Lays b c) : Lays a c := by
  obtain ⟨o1, rfl⟩ := h
  obtain ⟨o2, rfl⟩ := k
  exact ⟨o1 ++ o2, Sort.grow_grow _ _ _⟩
theorem Lays.refl (w : World) : Lays w w := ⟨#[], (Sort.grow_empty w).symm⟩
def sysV : Value := .agg #[.string ⟨#[92, 65, 110, 115, 119, 101, 114, 101, 100]⟩, .string ⟨#[92, 70, 108, 97, 103, 103, 101, 100]⟩, .string ⟨#[92, 68, 101, 108, 101, 116, 101, 100]⟩, .string ⟨#[92, 83, 101, 101, 110]⟩, .string ⟨#[92, 68, 114, 97, 102, 116]⟩]
set_option maxHeartbeats 400000 in
theorem system_any (w : World) : Calls Tryd.prog 24 #[] w fun e w' => e = .returned sysV ∧ Lays w w' := by
  go_enter Tryd.func24, Tryd.ntmps24
  go_wp2_with fail
  refine bodyPost_ret (v := sysV) ?_ rfl ⟨rfl, .alloc _ _⟩
  unfold results
  rw [show Tryd.f24.results = #[.cell 0 45] from rfl]
  simp [asAddr]
  go_simp
  rfl
/-- texts as the program holds them -/
def mkB (l : List UInt8) : ByteArray := ⟨l.toArray⟩
theorem mkB_list (l : List UInt8) : (mkB l).data.toList = l := rfl
theorem mkB_inj {a b : List UInt8} (h : mkB a = mkB b) : a = b := by
  have := congrArg (fun s : ByteArray => s.data.toList) h
  simpa [mkB] using this
theorem idxFromS_list : ∀ (l : List (List UInt8)) (x : List UInt8) (i : Nat), Lib.idxFromS (l.map mkB) (mkB x) i = if x ∈ l then ((i + l.idxOf x : Nat) : Int) else -1
  | [], x, i => by simp [Lib.idxFromS]
  | z :: r, x, i => by
    rw [List.map_cons, Lib.idxFromS]
    by_cases h : z = x
    · subst h
      simp
    · rw [if_neg (fun e => h (mkB_inj e)), idxFromS_list r x (i + 1)]
      by_cases hx : x ∈ r
      · have e : (z :: r).idxOf x = r.idxOf x + 1 := by rw [List.idxOf_cons, show (z == x) = false from by simpa using h]; rfl
        rw [if_pos hx, if_pos (List.mem_cons_of_mem _ hx), e]
        omega
      · rw [if_neg hx, if_neg (fun e => by rcases List.mem_cons.1 e with e | e; exact h e.symm; exact hx e)]
set_option maxHeartbeats 400000 in
theorem place_any (x : List UInt8) (w : World) : Calls Tryd.prog 50 #[encStr x] w fun e w' => e = .returned (.int .i64 (placeL x)) ∧ Lays w w' := by
  go_enter Tryd.func50, Tryd.ntmps50
  go_wp2_with fail
  refine (system_any w).mono ?_
  rintro e w1 ⟨rfl, l1⟩
  unfold sysV
  go_wp2_with fail
  have hi := Tryd.slices_Index_string w1.heap.size 0 5 5 (sysL.map mkB) (mkB x) (w1.alloc (.cells #[.string ⟨#[92, 65, 110, 115, 119, 101, 114, 101, 100]⟩, .string ⟨#[92, 70, 108, 97, 103, 103, 101, 100]⟩, .string ⟨#[92, 68, 101, 108, 101, 116, 101, 100]⟩, .string ⟨#[92, 83, 101, 101, 110]⟩, .string ⟨#[92, 68, 114, 97, 102, 116]⟩] 45)) (by decide) (by decide) (fun j hj => by
    have hj5 : j < 5 := hj
    match j, hj5 with
    | 0, _ => simp [sysL, mkB, List.getD]
    | 1, _ => simp [sysL, mkB, List.getD]
    | 2, _ => simp [sysL, mkB, List.getD]
    | 3, _ => simp [sysL, mkB, List.getD]
    | 4, _ => simp [sysL, mkB, List.getD])
  rw [show (sysL.map mkB).take 5 = sysL.map mkB from rfl, Lib.idxOfS, idxFromS_list] at hi
  have hle := placeL_le x
  by_cases hm : x ∈ sysL
  · rw [if_pos hm, Nat.zero_add] at hi
    replace hi : Calls Tryd.prog 70 #[.slice (some ⟨w1.heap.size, 0, none⟩) 5 5, encStr x] _ (fun e w' => e = .returned (.int .i64 ((placeL x : Nat) : Int)) ∧ w' = _) := hi
    refine hi.mono ?_
    rintro e w2 ⟨rfl, rfl⟩
    clear hi
    go_wp2_with fail
    go_ret
    exact ⟨rfl, l1.trans (Lays.alloc _ _)⟩
  · have h5 : placeL x = 5 := List.idxOf_eq_length hm
    rw [if_neg hm] at hi
    refine hi.mono ?_
    rintro e w2 ⟨rfl, rfl⟩
    replace h5 := Lib.hid h5
    clear hi
    go_wp2_with fail
    go_ret
    exact ⟨by rw [h5.out]; rfl, l1.trans (Lays.alloc _ _)⟩
set_option maxHeartbeats 400000 in
theorem ahead_any (x y : List UInt8) (w : World) : Calls Tryd.prog 33 #[encStr x, encStr y] w fun e w' => e = .returned (.int .i64 (fcmp x y)) ∧ Lays w w' := by
  have hx := placeL_le x
  have hy := placeL_le y
  go_enter Tryd.func33, Tryd.ntmps33
  go_wp2_with fail
  refine (place_any x w).mono ?_
  rintro e w1 ⟨rfl, l1⟩
  go_wp2_with fail
  refine (place_any y w1).mono ?_
  rintro e w2 ⟨rfl, l2⟩
  have l12 := Lib.hid (l1.trans l2)
  clear l1 l2
  by_cases h : placeL x = placeL y
  · have hf : fcmp x y = Lib.compareBytes x y := by rw [fcmp, if_pos h]
    replace hf := Lib.hid hf
    rw [h]
    clear h
    go_wp2_with fail
    refine (Tryd.strings_Compare (mkB x) (mkB y) w2).mono ?_
    rintro e w3 ⟨rfl, rfl⟩
    go_wp2_with fail
    go_ret
    exact ⟨by rw [hf.out]; rfl, l12.out⟩
  · have hf : fcmp x y = (placeL x : Int) - placeL y := by rw [fcmp, if_neg h]
    have hne : ((placeL x : Int) != (placeL y : Int)) = true := by
      rw [bne_iff_ne]; omega
    replace hf := Lib.hid hf
    clear h
    go_wp2_with fail
    go_ret
    exact ⟨by rw [hf.out]; rfl, l12.out⟩
end Go.Proofs.YtfglfoapgpghkaaDoor
