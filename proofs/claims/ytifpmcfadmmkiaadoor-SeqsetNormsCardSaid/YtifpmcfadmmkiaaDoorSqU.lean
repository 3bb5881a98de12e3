/- Opening ranges: a slice of structs of two numbers. -/
import Derived.Test.YtifpmcfadmmkiaaDoorSqP
import Derived.Test.YtifpmcfadmmkiaaDoorOpen
import Derived.Deep.SlicePairs
import Derived.SizedLaws
namespace Go.Proofs.YtifpmcfadmmkiaaDoor
open Go.ChangeShapes Go.WideShapes Go.ChangeAt Go.RowKit Go.Deep

theorem add_spotless {a : Addr} (hs : a.spot = none) (i : Nat) : a.add i = ⟨a.block, a.off + i, none⟩ := by
  cases a with
  | mk x y z => simp at hs; subst hs; exact Addr.add_lit ..
theorem cell_spot {w : World} {a : Addr} {v : Value} (h : w.cell? a = some v) : a.spot = none ∧ a.block < w.heap.size := by
  unfold World.cell? at h
  split at h
  · rename_i heq
    refine ⟨?_, (Array.getElem?_eq_some_iff.1 heq).1⟩
    cases hs : a.spot with
    | none => rfl
    | some x => simp [hs] at h
  · cases h
section
variable {H : Type} {enc : TypeId × Value → H} {w : World} {base : Nat} {spare : Nat → Bool} {held : Bool}
theorem cells_u64 : Tryd.prog.cellsOf 35 = 1 := by kernel_rfl
set_option maxRecDepth 10000 in
theorem open_u64 {v : Value} {y : DataW H × List MemPlace} {fuel : Nat} (h : DataW.trod enc Tryd.prog w base spare held fuel 35 [v] = some y) : ∃ n : Nat, v = .int .u64 n ∧ n < 18446744073709551616 := by
  obtain ⟨x, e, _, hw⟩ := DataW.trod_int Tryd.underlying35 h
  simp only [List.cons.injEq, and_true] at e
  subst e
  have hb := bounds_u64 hw
  exact ⟨x.toNat, by rw [Int.toNat_of_nonneg (by omega)], by omega⟩
set_option maxRecDepth 10000 in
theorem open_set {r : Reach} {b : Nat} {v : Value} {d : DataW H} {p : List MemPlace}
    (hv : Value.okWide Tryd.prog w r b 22 v) (h : DataW.Trod enc Tryd.prog w base spare held 22 v d p) :
    ∃ rs : List Rng, RangesIn w w.heap.size v rs ∧ (∀ r ∈ rs, r.1 < 18446744073709551616 ∧ r.2 < 18446744073709551616) ∧ ((d = .nil ∧ rs = []) ∨ ∃ (el sp : List (DataW H)), d = .slice el sp ∧ el.length = rs.length) := by
  obtain ⟨a0, len, cap, rfl⟩ := okWide_slice Tryd.underlying22 hv
  obtain ⟨fuel, hf⟩ := h
  rcases open_slice_pairs Tryd.underlying22 Tryd.underlying37 (by kernel_rfl) rfl rfl cells_u64 cells_u64 hf with ⟨hc, hx⟩ | ⟨a, len', cap', m, n, V0, V1, D0, D1, P0, P1, hc, _, hl, hm, hmm, hx, hall⟩
  · have : a0 = none ∧ len = 0 ∧ cap = 0 := by simpa [Value.cells] using hc
    obtain ⟨rfl, rfl, rfl⟩ := this
    simp only [Prod.mk.injEq] at hx
    exact ⟨[], ⟨none, 0, rfl, .inl rfl⟩, (fun r hr => by cases hr), .inl ⟨hx.1, rfl⟩⟩
  · have : a0 = some a ∧ len = len' ∧ cap = cap' := by simpa [Value.cells] using hc
    obtain ⟨rfl, rfl, rfl⟩ := this
    have hlm : len ≤ m := by rw [hmm]; split <;> omega
    simp only [Prod.mk.injEq] at hx
    obtain ⟨q, hq⟩ := choose_lt (α := Nat × Nat) (n := len) (p := fun i x => (V0 i = .int .u64 x.1 ∧ V1 i = .int .u64 x.2) ∧ x.1 < 18446744073709551616 ∧ x.2 < 18446744073709551616) (fun i hi => by
      obtain ⟨_, _, g0, g1⟩ := hall i (by omega)
      obtain ⟨n0, e0, b0⟩ := open_u64 g0
      obtain ⟨n1, e1, b1⟩ := open_u64 g1
      exact ⟨(n0, n1), ⟨by simpa using e0, by simpa using e1⟩, b0, b1⟩)
    have hlen : ((List.range len).map q).length = len := by simp
    refine ⟨(List.range len).map q, ⟨some a, cap, by rw [hlen], ?_⟩, fun r hr => ?_, .inr ⟨_, _, hx.1, by simp⟩⟩
    · rcases Nat.eq_zero_or_pos len with hz | hz
      · exact .inl (List.eq_nil_of_length_eq_zero (by rw [hlen]; exact hz))
      · right
        obtain ⟨c0, _, _, _⟩ := hall 0 (by omega)
        obtain ⟨hsp, hbl⟩ := cell_spot c0
        have e0 : a.add (0 * 2) = a := rfl
        rw [e0] at hsp hbl
        refine ⟨a.block, a.off, by cases a; simp at hsp; subst hsp; rfl, hbl, by rw [hlen]; exact hl, fun j hj => ?_⟩
        rw [hlen] at hj
        obtain ⟨g0, g1, _, _⟩ := hall j (by omega)
        rw [add_spotless hsp] at g0 g1
        obtain ⟨⟨v0, v1⟩, _⟩ := hq j hj
        rw [List.getElem_map, List.getElem_range]
        exact ⟨by rw [g0, v0], by rw [← v1, ← g1, Nat.add_assoc]⟩
    · obtain ⟨i, hi, rfl⟩ := List.mem_map.1 hr
      exact (hq i (by simpa using hi)).2
end
theorem set_bound {H : Type} {ts : List TypeId} {ds : List (DataW H)} {d : DataW H} {rs : List Rng} (h : (DataW.weightsEach Tryd.prog ts ds).all (· ≤ reachBytes) = true) {j : Nat} (ht : ts[j]? = some 22) (hd : ds[j]? = some d)
    (hl : (d = .nil ∧ rs = []) ∨ ∃ (el sp : List (DataW H)), d = .slice el sp ∧ el.length = rs.length) : rs.length * 16 ≤ reachBytes := by
  rcases hl with ⟨_, rfl⟩ | ⟨el, sp, rfl, he⟩
  · simp
  · have := sized_slice h ht hd Tryd.underlying22
    rw [show Tryd.prog.bytesOf 37 = 16 by kernel_rfl, he] at this
    unfold reachBytes at this ⊢
    omega
theorem maxlen_cell {W : World} (h : W.ShapedOpen Tryd.prog) : ∃ m, W.cell? ⟨0, 0, none⟩ = some (.int .i64 m) :=
  Go.Proofs.cell_of_shapedOpen_int (zero := #[.int .i64 0]) (t := 3) h (of_decide_eq_true (by kernel_rfl)) (by kernel_rfl) rfl (by kernel_rfl) (by kernel_rfl) Tryd.underlying3
/-- what the opener gives of a set -/
def SetArg (w : World) (v : Value) : Prop := ∃ rs : List Rng, RangesIn w w.heap.size v rs ∧ (∀ r ∈ rs, r.1 < 18446744073709551616 ∧ r.2 < 18446744073709551616) ∧ rs.length * 16 ≤ reachBytes
theorem turned_card (v : Value) (x y : Int) (hx : (Lit.int .u64 x).wf = true) (hy : (Lit.int .u64 y).wf = true) (w : World) (hr : SetArg w v) (hT : Tab w) (hE : Errs w) (hm : ∃ m, w.cell? ⟨0, 0, none⟩ = some (.int .i64 m)) :
    Calls Tryd.prog 7 #[v, .int .u64 x, .int .u64 y] w fun e w' => e = .returned (.bool true) ∧ Below w.heap.size w w' := by
  obtain ⟨rs, h1, h2, h3⟩ := hr
  obtain ⟨a, rfl⟩ : ∃ a : Nat, x = a := ⟨x.toNat, (Int.toNat_of_nonneg (bounds_u64 hx).1).symm⟩
  obtain ⟨b, rfl⟩ : ∃ b : Nat, y = b := ⟨y.toNat, (Int.toNat_of_nonneg (bounds_u64 hy).1).symm⟩
  unfold reachBytes at h3
  exact turned_any alive_any rs v a b w (by omega) h1 ⟨hT, hE, hm⟩
end Go.Proofs.YtifpmcfadmmkiaaDoor
