/- Parse, plain. -/
import Derived.Test.YtifpmcfadmmkiaaDoorSqB
import Derived.Lib.IndexMore
namespace Go.Proofs.YtifpmcfadmmkiaaDoor
open Go.RowKit

def pairO : Option Nat → Option Nat → Option Rng
  | some x, some y => some (x, y)
  | _, _ => none
def endA (p : List UInt8) : List UInt8 := (Lib.cut p [58]).1
def endB (p : List UInt8) : List UInt8 := if (Lib.cut p [58]).2.2 = true then (Lib.cut p [58]).2.1 else (Lib.cut p [58]).1
/-- a range as it is written -/
def rangeL (p : List UInt8) : Option Rng := pairO (oneL (endA p)) (oneL (endB p))
def allR : List (List UInt8) → Option (List Rng)
  | [] => some []
  | p :: r => match rangeL p, allR r with
    | some x, some l => some (x :: l)
    | _, _ => none
theorem allR_snoc : ∀ (l : List (List UInt8)) (rs : List Rng) (p : List UInt8) (x : Rng), allR l = some rs → rangeL p = some x → allR (l ++ [p]) = some (rs ++ [x])
  | [], rs, p, x, h, hx => by cases h; simp [allR, hx]
  | q :: l, rs, p, x, h, hx => by
    rw [allR] at h
    cases hq : rangeL q with
    | none => rw [hq] at h; cases h
    | some y =>
      rw [hq] at h
      cases hl : allR l with
      | none => rw [hl] at h; cases h
      | some t =>
        rw [hl] at h
        cases h
        rw [List.cons_append, allR, hq, allR_snoc l t p x hl hx]; rfl
theorem allR_none : ∀ (l : List (List UInt8)) (p : List UInt8), p ∈ l → rangeL p = none → allR l = none
  | q :: l, p, h, hp => by
    rw [allR]
    rcases List.mem_cons.1 h with rfl | h
    · rw [hp]
    · rw [allR_none l p h hp]
      cases rangeL q <;> rfl
/-- a set as it is written -/
def parseL (s : List UInt8) : Option (List Rng) := if 64 < (spl 44 s).length then none else allR (spl 44 s)
def ParseRet (s : List UInt8) (w : World) (e : Ending) (w' : World) : Prop := ∃ v, e = .returned (.tuple #[v, .bool (parseL s).isSome]) ∧ Hid (RangesIn w' w'.heap.size v ((parseL s).getD [])) ∧ Hid (Below w.heap.size w w')
theorem parse_no {s : List UInt8} {w w' : World} (h : parseL s = none) (hb : Below w.heap.size w w') : ParseRet s w (.returned (.tuple #[.slice none 0 0, .bool false])) w' :=
  ⟨_, by rw [h]; rfl, Lib.hid (by rw [h]; exact ⟨none, 0, rfl, .inl rfl⟩), Lib.hid hb⟩
theorem parse_yes {s : List UInt8} {rs : List Rng} {v : Value} {w w' : World} (h : parseL s = some rs) (hr : RangesIn w' w'.heap.size v rs) (hb : Below w.heap.size w w') : ParseRet s w (.returned (.tuple #[v, .bool true])) w' :=
  ⟨_, by rw [h]; rfl, Lib.hid (by rw [h]; exact hr), Lib.hid hb⟩
/-- what strings.Split gives: the texts between the commas -/
theorem split_any (s : ByteArray) (hs : s.size ≤ 1048576) (m : Int) (w : World) (hm : w.cell? ⟨0, 0, none⟩ = some (.int .i64 m)) :
    Calls Tryd.prog 27 #[.string s, .string ⟨#[44]⟩] w fun e w' => ∃ v, e = .returned v ∧ Hid (Rd w' v (spl 44 s.data.toList).length ((spl 44 s.data.toList).map encStr)) ∧ Hid (Below w.heap.size w w') := by
  refine (Tryd.strings_Split s ⟨#[44]⟩ m w (by omega) hm (by decide)).mono ?_
  rintro e w' ⟨rfl, rfl⟩
  have hlen : (Lib.splitB ⟨#[44]⟩ 0 (Lib.countB s ⟨#[44]⟩) s).length = Lib.countB s ⟨#[44]⟩ + 1 := Lib.splitB_all ⟨#[44]⟩ (by decide) 0 _ s rfl
  have hsp := splitB_spl 44 s
  have hl2 : (spl 44 s.data.toList).length = Lib.countB s ⟨#[44]⟩ + 1 := by rw [← hsp, List.length_map, hlen]
  refine ⟨_, rfl, Lib.hid ?_, Lib.hid ((Below.refl _ w).alloc (Nat.le_refl _) _)⟩
  rw [hl2]
  refine ⟨_, _, rfl, .inr ⟨w.heap.size, 0, rfl, by simp, Nat.le_refl _, fun i u hu => ?_⟩⟩
  rw [← hsp, List.map_map] at hu
  have e1 : ((Lib.splitB ⟨#[44]⟩ 0 (Lib.countB s ⟨#[44]⟩) s).map Value.string)[i]? = some u := hu
  simp only [Nat.zero_add]
  have : (w.alloc (.cells ((Lib.splitB ⟨#[44]⟩ 0 (Lib.countB s ⟨#[44]⟩) s).map Value.string).toArray 9)).cell? ⟨w.heap.size, i, none⟩ = ((Lib.splitB ⟨#[44]⟩ 0 (Lib.countB s ⟨#[44]⟩) s).map Value.string)[i]? := by
    unfold World.cell?
    simp only [heap_alloc_new]
    simp
  rw [this]
  exact e1
theorem rd_cell {w : World} {b o k : Nat} {l : List (List UInt8)} (hc : ∀ i u, (l.map encStr)[i]? = some u → w.cell? ⟨b, o + i, none⟩ = some u) (hk : k < l.length) : w.cell? ⟨b, o + k, none⟩ = some (.string (mkB l[k])) := hc k _ (by rw [List.getElem?_map, List.getElem?_eq_getElem hk]; rfl)
theorem cut_len (l : List UInt8) : (Lib.cut l [58]).1.length ≤ l.length ∧ (Lib.cut l [58]).2.1.length ≤ l.length := by
  unfold Lib.cut
  split
  · simp only [List.length_take, List.length_drop]; omega
  · simp
theorem cut_any (s : ByteArray) (hs : s.size ≤ 1048576) (m : Int) (w : World) (hm : w.cell? ⟨0, 0, none⟩ = some (.int .i64 m)) :
    Calls Tryd.prog 28 #[.string s, .string ⟨#[58]⟩] w fun e w' => e = .returned (.tuple #[encStr (Lib.cut s.data.toList [58]).1, encStr (Lib.cut s.data.toList [58]).2.1, .bool (Lib.cut s.data.toList [58]).2.2]) ∧ ∃ n, w' = w.drewN n :=
  Tryd.strings_Cut s ⟨#[58]⟩ m w (by omega) hm
end Go.Proofs.YtifpmcfadmmkiaaDoor
