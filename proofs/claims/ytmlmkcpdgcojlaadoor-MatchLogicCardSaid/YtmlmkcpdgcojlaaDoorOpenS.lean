/- Opening arguments that are slices, by what they read as; the bulk of what is read. -/
import Derived.Test.YtmlmkcpdgcojlaaDoorRows
import Derived.Test.YtmlmkcpdgcojlaaDoorRd
import Derived.WalkKit
import Derived.ProofKit
import Derived.SliceStrings
import Derived.OpenShut
namespace Go.Proofs.YtmlmkcpdgcojlaaDoor
open Go.ChangeShapes Go.WideShapes Go.ChangeAt Go.RowKit

theorem bulk_strs {H : Type} : ∀ ss : List ByteArray, Rows.uptoBulkAll (strs (H := H) ss) = (catB ss).length + ss.length
  | [] => rfl
  | s :: r => by
    have := bulk_strs (H := H) r
    simp only [strs, List.map_cons, Rows.uptoBulkAll, Rows.uptoBulk, catB, List.flatMap_cons, List.length_append, List.length_cons] at this ⊢
    omega
theorem cell_spot {w : World} {a : Addr} {v : Value} (h : w.cell? a = some v) : a.spot = none ∧ a.block < w.heap.size := by
  unfold World.cell? at h
  split at h
  · rename_i heq
    refine ⟨?_, (Array.getElem?_eq_some_iff.1 heq).1⟩
    cases hs : a.spot with
    | none => rfl
    | some x => simp [hs] at h
  · cases h
/-- a slice of texts -/
theorem open_texts {H : Type} {enc : TypeId × Value → H} {P : Program} {w : World} {r : Reach} {b base : Nat} {spare : Nat → Bool} {held : Bool} {t e : TypeId} {v : Value} {d : DataW H} {p : List MemPlace}
    (ht : P.underlying t = some (.slice e)) (he : P.underlying e = some .string) (hce : P.cellsOf e = 1)
    (hv : Value.okWide P w r b t v) (h : DataW.Trod enc P w base spare held t v d p) :
    ∃ ss : List ByteArray, Rd w v ss.length (strCells ss) ∧ (catB ss).length + ss.length ≤ Rows.uptoBulk d := by
  obtain ⟨a0, len, cap, rfl⟩ := okWide_slice ht hv
  obtain ⟨fuel, hf⟩ := h
  rcases open_strings ht he hce hf with ⟨hcs, hx⟩ | ⟨a, len', cap', ss, hcs, _, hl, hm, hz, hx, hcell, hsz⟩
  · have : a0 = none ∧ len = 0 ∧ cap = 0 := by simpa [Value.cells] using hcs
    obtain ⟨rfl, rfl, rfl⟩ := this
    exact ⟨[], ⟨none, 0, rfl, .inl rfl⟩, by simp [catB]⟩
  · have : a0 = some a ∧ len = len' ∧ cap = cap' := by simpa [Value.cells] using hcs
    obtain ⟨rfl, rfl, rfl⟩ := this
    have hle : len ≤ ss.length := by rw [hz]; split <;> omega
    have hll : (ss.take len).length = len := by rw [List.length_take]; omega
    refine ⟨ss.take len, ⟨some a, cap, by rw [hll], ?_⟩, ?_⟩
    · rcases Nat.eq_zero_or_pos len with h0 | h0
      · exact .inl (by rw [hll]; exact h0)
      · right
        obtain ⟨hs, hb⟩ := cell_spot (hcell 0 (by omega))
        have e0 : a.add 0 = a := rfl
        rw [e0] at hs hb
        refine ⟨a.block, a.off, by cases a; simp at hs; subst hs; rfl, hb, by rw [hll]; exact hl, fun i u hu => ?_⟩
        have hi : i < len := by
          have := (List.getElem?_eq_some_iff.1 hu).1
          simp [strCells] at this; omega
        have hc := hcell i (by omega)
        have ha : a.add i = ⟨a.block, a.off + i, none⟩ := by
          cases a with
          | mk x y z => simp at hs; subst hs; exact Addr.add_lit ..
        rw [ha] at hc
        rw [hc]
        have hget : (strCells (ss.take len))[i]? = some (.string (ss.getD i ByteArray.empty)) := by
          simp [strCells, hi, List.getD, List.getElem?_eq_getElem (show i < ss.length by omega)]
        rw [hget] at hu
        exact hu
    · simp only [Prod.mk.injEq] at hx
      rw [hx.1]
      simp only [Rows.uptoBulk]
      rw [bulk_strs, hll]
      omega
end Go.Proofs.YtmlmkcpdgcojlaaDoor
