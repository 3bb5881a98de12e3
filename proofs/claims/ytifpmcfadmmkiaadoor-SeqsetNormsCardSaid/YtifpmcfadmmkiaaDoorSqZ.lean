/- Opening lists of numbers; what the cards of SeqsetWrites, SeqsetHolds and SeqsetBack ask of the walks. -/
import Derived.Test.YtifpmcfadmmkiaaDoorSqU
import Derived.Test.YtifpmcfadmmkiaaDoorSqW
import Derived.Test.YtifpmcfadmmkiaaDoorSqX
import Derived.Test.YtifpmcfadmmkiaaDoorSqY
namespace Go.Proofs.YtifpmcfadmmkiaaDoor
open Go.ChangeShapes Go.WideShapes Go.ChangeAt Go.RowKit Go.Deep

section
variable {H : Type} {enc : TypeId × Value → H} {w : World} {base : Nat} {spare : Nat → Bool} {held : Bool}
set_option maxRecDepth 10000 in
theorem open_nums {r : Reach} {b : Nat} {v : Value} {d : DataW H} {p : List MemPlace}
    (hv : Value.okWide Tryd.prog w r b 28 v) (h : DataW.Trod enc Tryd.prog w base spare held 28 v d p) :
    ∃ l : List Nat, Rd w v l.length (l.map encU) ∧ (∀ x ∈ l, x < 18446744073709551616) ∧ ((d = .nil ∧ l = []) ∨ ∃ (el sp : List (DataW H)), d = .slice el sp ∧ el.length = l.length) := by
  obtain ⟨a0, len, cap, rfl⟩ := okWide_slice Tryd.underlying28 hv
  obtain ⟨fuel, hf⟩ := h
  rcases open_ints Tryd.underlying28 Tryd.underlying35 cells_u64 hf with ⟨hc, hx⟩ | ⟨a, len', cap', zs, hc, _, hl, hm, hz, hx, hcell, hwf⟩
  · have : a0 = none ∧ len = 0 ∧ cap = 0 := by simpa [Value.cells] using hc
    obtain ⟨rfl, rfl, rfl⟩ := this
    simp only [Prod.mk.injEq] at hx
    exact ⟨[], ⟨none, 0, rfl, .inl rfl⟩, (fun r hr => by cases hr), .inl ⟨hx.1, rfl⟩⟩
  · have : a0 = some a ∧ len = len' ∧ cap = cap' := by simpa [Value.cells] using hc
    obtain ⟨rfl, rfl, rfl⟩ := this
    have hle : len ≤ zs.length := by rw [hz]; split <;> omega
    have hll : ((zs.take len).map Int.toNat).length = len := by rw [List.length_map, List.length_take]; omega
    simp only [Prod.mk.injEq] at hx
    refine ⟨(zs.take len).map Int.toNat, ⟨some a, cap, by rw [hll], ?_⟩, fun x hx => ?_, .inr ⟨_, _, hx.1, by rw [hll]; simp [lits]; omega⟩⟩
    · rcases Nat.eq_zero_or_pos len with h0 | h0
      · exact .inl (by rw [hll]; exact h0)
      · right
        obtain ⟨hs, hb⟩ := cell_spot (hcell 0 (by omega))
        have e0 : a.add 0 = a := rfl
        rw [e0] at hs hb
        refine ⟨a.block, a.off, by cases a; simp at hs; subst hs; rfl, hb, by rw [hll]; exact hl, fun i u hu => ?_⟩
        have hi : i < len := by
          have := (List.getElem?_eq_some_iff.1 hu).1
          rw [List.length_map, hll] at this
          exact this
        have hcc := hcell i (by omega)
        rw [add_spotless hs] at hcc
        rw [hcc]
        have hb2 := bounds_u64 (hwf (zs[i]'(by omega)) (List.getElem_mem _))
        have hget : (((zs.take len).map Int.toNat).map encU)[i]? = some (.int .u64 (zs.getD i 0)) := by
          rw [List.getElem?_map, List.getElem?_map, List.getElem?_take_of_lt hi, List.getElem?_eq_getElem (by omega)]
          simp only [Option.map_some, encU, List.getD, List.getElem?_eq_getElem (show i < zs.length by omega), Option.getD_some]
          rw [Int.toNat_of_nonneg (by omega)]
        rw [hget] at hu
        exact hu
    · obtain ⟨s, hs, rfl⟩ := List.mem_map.1 hx
      have := bounds_u64 (hwf s (List.mem_of_mem_take hs))
      omega
end
theorem nums_bound {H : Type} {ts : List TypeId} {ds : List (DataW H)} {d : DataW H} {l : List Nat} (h : (DataW.weightsEach Tryd.prog ts ds).all (· ≤ reachBytes) = true) {j : Nat} (ht : ts[j]? = some 28) (hd : ds[j]? = some d)
    (hl : (d = .nil ∧ l = []) ∨ ∃ (el sp : List (DataW H)), d = .slice el sp ∧ el.length = l.length) : l.length * 8 ≤ reachBytes := by
  rcases hl with ⟨_, rfl⟩ | ⟨el, sp, rfl, he⟩
  · simp
  · have := sized_slice h ht hd Tryd.underlying28
    rw [show Tryd.prog.bytesOf 35 = 8 by kernel_rfl, he] at this
    unfold reachBytes at this ⊢
    omega
/-- what the opener gives of a list of numbers -/
def NumsArg (w : World) (v : Value) : Prop := ∃ l : List Nat, Rd w v l.length (l.map encU) ∧ (∀ x ∈ l, x < 18446744073709551616) ∧ l.length * 8 ≤ reachBytes
theorem writes_card (v : Value) (w : World) (hr : SetArg w v) (hT : Tab w) (hE : Errs w) (hm : ∃ m, w.cell? ⟨0, 0, none⟩ = some (.int .i64 m)) :
    Calls Tryd.prog 3 #[v] w fun e w' => e = .returned (.bool true) ∧ Below w.heap.size w w' := by
  obtain ⟨rs, h1, h2, h3⟩ := hr
  unfold reachBytes at h3
  exact writes_any alive_any rs v w h1 (by omega) h2 ⟨hT, hE, hm⟩
theorem back_card (v : Value) (s : ByteArray) (hs : s.size ≤ 1048576) (w : World) (hr : SetArg w v) (hT : Tab w) (hE : Errs w) (hm : ∃ m, w.cell? ⟨0, 0, none⟩ = some (.int .i64 m)) :
    Calls Tryd.prog 5 #[v, .string s] w fun e w' => e = .returned (.bool true) ∧ Below w.heap.size w w' := by
  obtain ⟨rs, h1, h2, h3⟩ := hr
  unfold reachBytes at h3
  exact back_any alive_any rs v s hs w h1 (by omega) h2 ⟨hT, hE, hm⟩
theorem holds_card (v : Value) (x y : Int) (vo : Value) (hx : (Lit.int .u64 x).wf = true) (hy : (Lit.int .u64 y).wf = true) (w : World) (hr : SetArg w v) (hr2 : NumsArg w vo) (hT : Tab w) (hE : Errs w) (hm : ∃ m, w.cell? ⟨0, 0, none⟩ = some (.int .i64 m)) :
    Calls Tryd.prog 8 #[v, .int .u64 x, .int .u64 y, vo] w fun e w' => e = .returned (.bool true) ∧ Below w.heap.size w w' := by
  obtain ⟨rs, h1, h2, h3⟩ := hr
  obtain ⟨l, g1, g2, g3⟩ := hr2
  obtain ⟨a, rfl⟩ : ∃ a : Nat, x = a := ⟨x.toNat, (Int.toNat_of_nonneg (bounds_u64 hx).1).symm⟩
  obtain ⟨b, rfl⟩ : ∃ b : Nat, y = b := ⟨y.toNat, (Int.toNat_of_nonneg (bounds_u64 hy).1).symm⟩
  unfold reachBytes at h3 g3
  exact holds_any alive_any rs v vo a b l w (by omega) h1 g1 (by omega) ⟨hT, hE, hm⟩
end Go.Proofs.YtifpmcfadmmkiaaDoor
