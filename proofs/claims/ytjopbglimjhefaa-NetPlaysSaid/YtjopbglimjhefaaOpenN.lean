/- Opening acts: a slice of structs of four numbers and a text. -/
import Derived.Test.YtjopbglimjhefaaNeR
import Derived.Test.YtjopbglimjhefaaOpen
import Derived.SizedLaws
import Derived.Deep.SlicePairs
namespace Go.Proofs.Ytjopbglimjhefaa
open Go.ChangeShapes Go.WideShapes Go.ChangeAt Go.RowKit Go.Deep

theorem add_spotless {a : Addr} (hs : a.spot = none) (i : Nat) : a.add i = ⟨a.block, a.off + i, none⟩ := by
  cases a with
  | mk x y z => simp at hs; subst hs; exact Addr.add_lit ..
theorem add_adds (a : Addr) (hs : a.spot = none) (i j : Nat) : (a.add i).add j = ⟨a.block, a.off + i + j, none⟩ := by
  rw [add_spotless hs]; exact Addr.add_lit ..
theorem cell_spot {w : World} {a : Addr} {v : Value} (h : w.cell? a = some v) : a.spot = none ∧ a.block < w.heap.size := by
  unfold World.cell? at h
  split at h
  · rename_i heq
    refine ⟨?_, (Array.getElem?_eq_some_iff.1 heq).1⟩
    cases hs : a.spot with
    | none => rfl
    | some x => simp [hs] at h
  · cases h
instance : Inhabited ActD := ⟨⟨0, 0, 0, 0, ⟨#[]⟩⟩⟩
section
variable {H : Type} {enc : TypeId × Value → H} {w : World} {base : Nat} {spare : Nat → Bool} {held : Bool}
theorem trod_field {P : Program} {m : Nat} {fs : Array Field} {cs : List Value} {xs : List (DataW H × List MemPlace)}
    (h : ∀ (i : Nat) (f : Field), fs[i]? = some f → DataW.trod enc P w base spare held m f.type ((cs.drop f.offset).take (P.cellsOf f.type)) = xs[i]?) (i : Nat) {f : Field} {t o n : Nat} {cs' : List Value} {x : DataW H × List MemPlace}
    (hf : fs[i]? = some f) (ht : f.type = t) (ho : f.offset = o) (hc : P.cellsOf t = n) (hcs : (cs.drop o).take n = cs') (hx : xs[i]? = some x) : DataW.trod enc P w base spare held m t cs' = some x := by
  subst ht ho hc hcs
  rw [h i f hf, hx]
theorem cells_int : Try.prog.cellsOf 3 = 1 := by kernel_rfl
theorem cells_str : Try.prog.cellsOf 9 = 1 := by kernel_rfl
set_option maxRecDepth 10000 in
set_option maxHeartbeats 2000000 in
theorem open_act {cs : List Value} {y : DataW H × List MemPlace} {fuel : Nat} (hl : cs.length = 5) (h : DataW.trod enc Try.prog w base spare held fuel 39 cs = some y) : ∃ k : ActD, cs = actCells k := by
  match cs, hl with
  | [c0, c1, c2, c3, c4], _ =>
    obtain ⟨xs, m, _, _, _, hx, hall⟩ := DataW.trod_struct Try.underlying39 h
    match xs, hx with
    | [x0, x1, x2, x3, x4], _ =>
      obtain ⟨kind, e0, _, _⟩ := DataW.trod_int Try.underlying3 (trod_field hall 0 (o := 0) (cs' := [c0]) rfl rfl rfl cells_int rfl rfl)
      obtain ⟨a, e1, _, _⟩ := DataW.trod_int Try.underlying3 (trod_field hall 1 (o := 1) (cs' := [c1]) rfl rfl rfl cells_int rfl rfl)
      obtain ⟨b, e2, _, _⟩ := DataW.trod_int Try.underlying3 (trod_field hall 2 (o := 2) (cs' := [c2]) rfl rfl rfl cells_int rfl rfl)
      obtain ⟨n, e3, _, _⟩ := DataW.trod_int Try.underlying3 (trod_field hall 3 (o := 3) (cs' := [c3]) rfl rfl rfl cells_int rfl rfl)
      obtain ⟨s, e4, _, _⟩ := DataW.trod_string Try.underlying9 (trod_field hall 4 (o := 4) (cs' := [c4]) rfl rfl rfl cells_str rfl rfl)
      simp only [List.cons.injEq, and_true] at e0 e1 e2 e3 e4
      subst e0 e1 e2 e3 e4
      exact ⟨⟨kind, a, b, n, s⟩, rfl⟩
set_option maxRecDepth 10000 in
theorem open_acts {r : Reach} {b : Nat} {v : Value} {d : DataW H} {p : List MemPlace}
    (hv : Value.okWide Try.prog w r b 22 v) (h : DataW.Trod enc Try.prog w base spare held 22 v d p) :
    ∃ ks : List ActD, ActsIn w v ks := by
  obtain ⟨a0, len, cap, rfl⟩ := okWide_slice Try.underlying22 hv
  obtain ⟨fuel, hf⟩ := h
  rcases open_slice Try.underlying22 hf with ⟨hcs, _⟩ | ⟨a, len', cap', m, n, D, Pl, hcs, _, hl, hm, hmm, _, hall⟩
  · have : a0 = none ∧ len = 0 ∧ cap = 0 := by simpa [Value.cells] using hcs
    obtain ⟨rfl, rfl, rfl⟩ := this
    exact ⟨[], none, 0, rfl, .inl rfl⟩
  · have : a0 = some a ∧ len = len' ∧ cap = cap' := by simpa [Value.cells] using hcs
    obtain ⟨rfl, rfl, rfl⟩ := this
    have hlm : len ≤ m := by rw [hmm]; split <;> omega
    rw [show Try.prog.cellsOf 39 = 5 by kernel_rfl] at hall
    obtain ⟨q, hq⟩ := choose_lt (α := ActD) (n := len) (p := fun i k => ∀ j, j < 5 → w.cell? ((a.add (i * 5)).add j) = (actCells k)[j]?) (fun i hi => by
      obtain ⟨cs', hc, ht⟩ := hall i (by omega)
      obtain ⟨_, hcl, hat⟩ := World.cells?_some hc
      obtain ⟨k, rfl⟩ := open_act hcl ht
      exact ⟨k, hat⟩)
    have hlen : ((List.range len).map q).length = len := by simp
    refine ⟨(List.range len).map q, some a, cap, by rw [hlen], ?_⟩
    rcases Nat.eq_zero_or_pos len with hz | hz
    · exact .inl (List.eq_nil_of_length_eq_zero (by rw [hlen]; exact hz))
    · right
      have c0 := (hq 0 (by omega)) 0 (by decide)
      have e0 : (a.add (0 * 5)).add 0 = a := rfl
      rw [e0] at c0
      obtain ⟨hsp, hbl⟩ := cell_spot c0
      refine ⟨a.block, a.off, by cases a; simp at hsp; subst hsp; rfl, hbl, fun j hj => ?_⟩
      rw [hlen] at hj
      have g := hq j hj
      simp only [add_adds a hsp] at g
      rw [List.getElem_map, List.getElem_range]
      exact ⟨g 0 (by decide), g 1 (by decide), g 2 (by decide), g 3 (by decide), g 4 (by decide)⟩
set_option maxRecDepth 10000 in
theorem open_actsN {r : Reach} {b : Nat} {v : Value} {d : DataW H} {p : List MemPlace}
    (hv : Value.okWide Try.prog w r b 22 v) (h : DataW.Trod enc Try.prog w base spare held 22 v d p) :
    ∃ ks : List ActD, ActsIn w v ks ∧ ks.length ≤ 9223372036854775807 := by
  obtain ⟨a0, len, cap, rfl⟩ := okWide_slice Try.underlying22 hv
  obtain ⟨fuel, hf⟩ := h
  rcases open_slice Try.underlying22 hf with ⟨hcs, _⟩ | ⟨a, len', cap', m, n, D, Pl, hcs, _, hl, hm, hmm, _, hall⟩
  · have : a0 = none ∧ len = 0 ∧ cap = 0 := by simpa [Value.cells] using hcs
    obtain ⟨rfl, rfl, rfl⟩ := this
    exact ⟨[], ⟨none, 0, rfl, .inl rfl⟩, Nat.zero_le _⟩
  · have : a0 = some a ∧ len = len' ∧ cap = cap' := by simpa [Value.cells] using hcs
    obtain ⟨rfl, rfl, rfl⟩ := this
    have hlm : len ≤ m := by rw [hmm]; split <;> omega
    rw [show Try.prog.cellsOf 39 = 5 by kernel_rfl] at hall
    obtain ⟨q, hq⟩ := choose_lt (α := ActD) (n := len) (p := fun i k => ∀ j, j < 5 → w.cell? ((a.add (i * 5)).add j) = (actCells k)[j]?) (fun i hi => by
      obtain ⟨cs', hc, ht⟩ := hall i (by omega)
      obtain ⟨_, hcl, hat⟩ := World.cells?_some hc
      obtain ⟨k, rfl⟩ := open_act hcl ht
      exact ⟨k, hat⟩)
    have hlen : ((List.range len).map q).length = len := by simp
    have hm' : cap ≤ 9223372036854775807 := hm
    refine ⟨(List.range len).map q, ⟨some a, cap, by rw [hlen], ?_⟩, by rw [hlen]; omega⟩
    rcases Nat.eq_zero_or_pos len with hz | hz
    · exact .inl (List.eq_nil_of_length_eq_zero (by rw [hlen]; exact hz))
    · right
      have c0 := (hq 0 (by omega)) 0 (by decide)
      have e0 : (a.add (0 * 5)).add 0 = a := rfl
      rw [e0] at c0
      obtain ⟨hsp, hbl⟩ := cell_spot c0
      refine ⟨a.block, a.off, by cases a; simp at hsp; subst hsp; rfl, hbl, fun j hj => ?_⟩
      rw [hlen] at hj
      have g := hq j hj
      simp only [add_adds a hsp] at g
      rw [List.getElem_map, List.getElem_range]
      exact ⟨g 0 (by decide), g 1 (by decide), g 2 (by decide), g 3 (by decide), g 4 (by decide)⟩
end
end Go.Proofs.Ytjopbglimjhefaa
