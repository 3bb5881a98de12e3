/- Opening lists of texts, without a bound of ours: what the form's own reach says of their length. -/
import Derived.Test.YtfglfoapgpghkaaDoorFlF
import Derived.Test.YtfglfoapgpghkaaDoorOpenS
import Derived.SizedLaws
namespace Go.Proofs.YtfglfoapgpghkaaDoor
open Go.ChangeShapes Go.WideShapes Go.ChangeAt Go.RowKit

/-- a list of texts: what it reads as, and how its datum stands -/
theorem open_flags {H : Type} {enc : TypeId × Value → H} {P : Program} {w : World} {r : Reach} {b base : Nat} {spare : Nat → Bool} {held : Bool} {t e : TypeId} {v : Value} {d : DataW H} {p : List MemPlace}
    (ht : P.underlying t = some (.slice e)) (he : P.underlying e = some .string) (hce : P.cellsOf e = 1)
    (hv : Value.okWide P w r b t v) (h : DataW.Trod enc P w base spare held t v d p) :
    ∃ l : List (List UInt8), Rd w v l.length (l.map encStr) ∧ (Sized l ∧ ((d = .nil ∧ l = []) ∨ ∃ (el sp : List (DataW H)), d = .slice el sp ∧ el.length = l.length)) := by
  obtain ⟨a0, len, cap, rfl⟩ := okWide_slice ht hv
  obtain ⟨fuel, hf⟩ := h
  rcases open_strings ht he hce hf with ⟨hcs, hx⟩ | ⟨a, len', cap', ss, hcs, _, hl, hm, hz, hx, hcell, hsz⟩
  · have : a0 = none ∧ len = 0 ∧ cap = 0 := by simpa [Value.cells] using hcs
    obtain ⟨rfl, rfl, rfl⟩ := this
    simp only [Prod.mk.injEq] at hx
    exact ⟨[], ⟨none, 0, rfl, .inl rfl⟩, (fun x hx => by cases hx), .inl ⟨hx.1, rfl⟩⟩
  · have : a0 = some a ∧ len = len' ∧ cap = cap' := by simpa [Value.cells] using hcs
    obtain ⟨rfl, rfl, rfl⟩ := this
    have hle : len ≤ ss.length := by rw [hz]; split <;> omega
    have hll : ((ss.take len).map (·.data.toList)).length = len := by rw [List.length_map, List.length_take]; omega
    simp only [Prod.mk.injEq] at hx
    refine ⟨(ss.take len).map (·.data.toList), ⟨some a, cap, by rw [hll], ?_⟩, fun x hx => ?_, .inr ⟨_, _, hx.1, by rw [hll]; simp [strs]; omega⟩⟩
    · rcases Nat.eq_zero_or_pos len with h0 | h0
      · exact .inl (by rw [hll]; exact h0)
      · right
        obtain ⟨hs, hb⟩ := cell_spot (hcell 0 (by omega))
        have e0 : a.add 0 = a := rfl
        rw [e0] at hs hb
        refine ⟨a.block, a.off, by cases a; simp at hs; subst hs; rfl, hb, by rw [hll]; exact hl, fun i u hu => ?_⟩
        have hi : i < len := by
          have := (List.getElem?_eq_some_iff.1 hu).1
          rw [List.length_map, hll] at this
          exact this
        have hc := hcell i (by omega)
        have ha : a.add i = ⟨a.block, a.off + i, none⟩ := by
          cases a with
          | mk x y z => simp at hs; subst hs; exact Addr.add_lit ..
        rw [ha] at hc
        rw [hc]
        have hget : (((ss.take len).map (·.data.toList)).map encStr)[i]? = some (.string (ss.getD i ByteArray.empty)) := by
          rw [List.getElem?_map, List.getElem?_map, List.getElem?_take_of_lt hi, List.getElem?_eq_getElem (by omega)]
          simp [List.getD, List.getElem?_eq_getElem (show i < ss.length by omega), encStr]
        rw [hget] at hu
        exact hu
    · obtain ⟨s, hs, rfl⟩ := List.mem_map.1 hx
      exact hsz s (List.mem_of_mem_take hs)
theorem flags_bound {H : Type} {P : Program} {ts : List TypeId} {ds : List (DataW H)} {t e : TypeId} {d : DataW H} {l : List (List UInt8)} (h : (DataW.weightsEach P ts ds).all (· ≤ reachBytes) = true) {j : Nat} (ht : ts[j]? = some t) (hd : ds[j]? = some d) (hu : P.underlying t = some (.slice e)) (hb : P.bytesOf e = 16)
    (hl : (d = .nil ∧ l = []) ∨ ∃ (el sp : List (DataW H)), d = .slice el sp ∧ el.length = l.length) : (l.length + 2) * 16 ≤ 140737488355328 := by
  rcases hl with ⟨_, rfl⟩ | ⟨el, sp, rfl, he⟩
  · decide
  · have := sized_slice h ht hd hu
    rw [hb, he] at this
    unfold reachBytes at this
    omega
end Go.Proofs.YtfglfoapgpghkaaDoor
