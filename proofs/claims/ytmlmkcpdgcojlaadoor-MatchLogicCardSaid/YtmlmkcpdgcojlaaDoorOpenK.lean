/- Opening keys: a slice of structs of six cells, each with a slice of ranges. -/
import Derived.Test.YtmlmkcpdgcojlaaDoorOpenM
import Derived.Test.YtmlmkcpdgcojlaaDoorMaN
import Derived.Deep.SlicePairs
namespace Go.Proofs.YtmlmkcpdgcojlaaDoor
open Go.ChangeShapes Go.WideShapes Go.ChangeAt Go.RowKit Go.Deep

instance : Inhabited KeyD := ⟨⟨0, 0, ⟨#[]⟩, ⟨#[]⟩, 0, none, 0, 0, fun _ _ => false⟩⟩
theorem add_spotless {a : Addr} (hs : a.spot = none) (i : Nat) : a.add i = ⟨a.block, a.off + i, none⟩ := by
  cases a with
  | mk x y z => simp at hs; subst hs; exact Addr.add_lit ..
theorem add_adds (a : Addr) (hs : a.spot = none) (i j : Nat) : (a.add i).add j = ⟨a.block, a.off + i + j, none⟩ := by
  rw [add_spotless hs]; exact Addr.add_lit ..
section
variable {H : Type} {enc : TypeId × Value → H} {w : World} {base : Nat} {spare : Nat → Bool} {held : Bool}
theorem open_ranges {cs : List Value} {y : DataW H × List MemPlace} {fuel : Nat} (h : DataW.trod enc Tryd.prog w base spare held fuel 34 cs = some y) :
    ∃ (a : Option Addr) (n c : Nat) (rs : List (Nat × Nat)), cs = [.slice a n c] ∧ RangesIn w w.heap.size (.slice a n c) rs ∧ rs.length ≤ 9223372036854775807 := by
  rcases open_slice_pairs Tryd.underlying34 Tryd.underlying58 (by kernel_rfl) rfl rfl cells_u64 cells_u64 h with ⟨hc, _⟩ | ⟨a, len, cap, m, n, V0, V1, D0, D1, P0, P1, hc, _, hl, hm, hmm, _, hall⟩
  · exact ⟨none, 0, 0, [], hc, ⟨none, 0, rfl, .inl rfl⟩, Nat.zero_le _⟩
  · have hm' : cap ≤ 9223372036854775807 := hm
    have hlm : len ≤ m := by rw [hmm]; split <;> omega
    obtain ⟨q, hq⟩ := choose_lt (α := Nat × Nat) (n := len) (p := fun i x => V0 i = .int .u64 x.1 ∧ V1 i = .int .u64 x.2) (fun i hi => by
      obtain ⟨_, _, g0, g1⟩ := hall i (by omega)
      obtain ⟨n0, e0⟩ := open_u64 g0
      obtain ⟨n1, e1⟩ := open_u64 g1
      exact ⟨(n0, n1), by simpa using e0, by simpa using e1⟩)
    have hlen : ((List.range len).map q).length = len := by simp
    refine ⟨some a, len, cap, (List.range len).map q, hc, ⟨some a, cap, by rw [hlen], ?_⟩, by rw [hlen]; omega⟩
    rcases Nat.eq_zero_or_pos len with hz | hz
    · exact .inl (List.eq_nil_of_length_eq_zero (by rw [hlen]; exact hz))
    · right
      obtain ⟨c0, _, _, _⟩ := hall 0 (by omega)
      obtain ⟨hsp, hbl⟩ := cell_spot c0
      have e0 : a.add (0 * 2) = a := rfl
      rw [e0] at hsp hbl
      refine ⟨a.block, a.off, by cases a; simp at hsp; subst hsp; rfl, hbl, by rw [hlen]; exact hl, fun j hj => ?_⟩
      rw [hlen] at hj
      obtain ⟨g0, g1, _, _⟩ := hall j (by omega)
      rw [add_spotless hsp] at g0 g1
      obtain ⟨v0, v1⟩ := hq j hj
      rw [List.getElem_map, List.getElem_range]
      exact ⟨by rw [g0, v0], by rw [← v1, ← g1, Nat.add_assoc]⟩
set_option maxHeartbeats 2000000 in
theorem open_key {cs : List Value} {y : DataW H × List MemPlace} {fuel : Nat} (hl : cs.length = 6) (h : DataW.trod enc Tryd.prog w base spare held fuel 36 cs = some y) : ∃ k : KeyD, cs = keyCells k ∧ SetIn w k := by
  match cs, hl with
  | [c0, c1, c2, c3, c4, c5], _ =>
    obtain ⟨xs, m, _, _, _, hx, hall⟩ := DataW.trod_struct Tryd.underlying36 h
    match xs, hx with
    | [x0, x1, x2, x3, x4, x5], _ =>
      obtain ⟨kind, e0, _, w0⟩ := DataW.trod_int Tryd.underlying3 (trod_field hall 0 (o := 0) (cs' := [c0]) rfl rfl rfl (show Tryd.prog.cellsOf 3 = 1 by kernel_rfl) rfl rfl)
      obtain ⟨kids, e1, _, w1⟩ := DataW.trod_int Tryd.underlying3 (trod_field hall 1 (o := 1) (cs' := [c1]) rfl rfl rfl (show Tryd.prog.cellsOf 3 = 1 by kernel_rfl) rfl rfl)
      obtain ⟨field, e2, _, _⟩ := DataW.trod_string Tryd.underlying9 (trod_field hall 2 (o := 2) (cs' := [c2]) rfl rfl rfl cells_str rfl rfl)
      obtain ⟨text, e3, _, _⟩ := DataW.trod_string Tryd.underlying9 (trod_field hall 3 (o := 3) (cs' := [c3]) rfl rfl rfl cells_str rfl rfl)
      obtain ⟨n, e4⟩ := open_u64 (trod_field hall 4 (o := 4) (cs' := [c4]) rfl rfl rfl cells_u64 rfl rfl)
      obtain ⟨a, sn, sc, rs, e5, hr, hrl⟩ := open_ranges (trod_field hall 5 (o := 5) (cs' := [c5]) rfl rfl rfl (show Tryd.prog.cellsOf 34 = 1 by kernel_rfl) rfl rfl)
      simp only [List.cons.injEq, and_true] at e0 e1 e2 e3 e4 e5
      subst e0 e1 e2 e3 e4 e5
      have := bounds_i64 w1
      exact ⟨⟨kind, kids, field, text, n, a, sn, sc, hasL rs⟩, rfl, by show kids ≤ _; omega, rs, rfl, hr, hrl⟩
theorem open_keys {r : Reach} {b : Nat} {v : Value} {d : DataW H} {p : List MemPlace}
    (hv : Value.okWide Tryd.prog w r b 22 v) (h : DataW.Trod enc Tryd.prog w base spare held 22 v d p) :
    ∃ ks : List KeyD, KeysIn w w.heap.size v ks ∧ ∀ k ∈ ks, SetIn w k := by
  obtain ⟨a0, len, cap, rfl⟩ := okWide_slice Tryd.underlying22 hv
  obtain ⟨fuel, hf⟩ := h
  rcases open_slice Tryd.underlying22 hf with ⟨hcs, _⟩ | ⟨a, len', cap', m, n, D, Pl, hcs, _, hl, hm, hmm, _, hall⟩
  · have : a0 = none ∧ len = 0 ∧ cap = 0 := by simpa [Value.cells] using hcs
    obtain ⟨rfl, rfl, rfl⟩ := this
    exact ⟨[], ⟨none, 0, rfl, .inl rfl⟩, fun k hk => by cases hk⟩
  · have : a0 = some a ∧ len = len' ∧ cap = cap' := by simpa [Value.cells] using hcs
    obtain ⟨rfl, rfl, rfl⟩ := this
    have hlm : len ≤ m := by rw [hmm]; split <;> omega
    rw [show Tryd.prog.cellsOf 36 = 6 by kernel_rfl] at hall
    obtain ⟨q, hq⟩ := choose_lt (α := KeyD) (n := len) (p := fun i k => SetIn w k ∧ ∀ j, j < 6 → w.cell? ((a.add (i * 6)).add j) = (keyCells k)[j]?) (fun i hi => by
      obtain ⟨cs', hc, ht⟩ := hall i (by omega)
      obtain ⟨_, hcl, hat⟩ := World.cells?_some hc
      obtain ⟨k, rfl, hk⟩ := open_key hcl ht
      exact ⟨k, hk, hat⟩)
    have hlen : ((List.range len).map q).length = len := by simp
    refine ⟨(List.range len).map q, ⟨some a, cap, by rw [hlen], ?_⟩, fun k hk => ?_⟩
    · rcases Nat.eq_zero_or_pos len with hz | hz
      · exact .inl (List.eq_nil_of_length_eq_zero (by rw [hlen]; exact hz))
      · right
        have c0 := (hq 0 (by omega)).2 0 (by decide)
        have e0 : (a.add (0 * 6)).add 0 = a := rfl
        rw [e0] at c0
        obtain ⟨hsp, hbl⟩ := cell_spot c0
        refine ⟨a.block, a.off, by cases a; simp at hsp; subst hsp; rfl, hbl, by rw [hlen]; exact hl, fun j hj => ?_⟩
        rw [hlen] at hj
        have g := (hq j hj).2
        simp only [add_adds a hsp] at g
        rw [List.getElem_map, List.getElem_range]
        exact ⟨g 0 (by decide), g 1 (by decide), g 2 (by decide), g 3 (by decide), g 4 (by decide), g 5 (by decide)⟩
    · obtain ⟨i, hi, rfl⟩ := List.mem_map.1 hk
      exact (hq i (by simpa using hi)).1
end
/-- the walk as the card calls it -/
theorem matchBytes_card (v y : Value) (t : ByteArray) (ht : t.size ≤ reachBytes) (w : World) (hk : ∃ ks : List KeyD, KeysIn w w.heap.size v ks ∧ ∀ k ∈ ks, SetIn w k) (hy : ∃ x pl s, y = mailV x pl s ∧ FlagIn w x ∧ s.size ≤ 9223372036854775807 ∧ s.size ≤ reachBytes) (hm : ∃ m, w.cell? ⟨0, 0, none⟩ = some (.int .i64 m)) :
    Calls Tryd.prog 4 #[v, y, .string t] w fun e w' => e = .returned (.bool true) ∧ Below w.heap.size w w' := by
  obtain ⟨ks, hk1, hk2⟩ := hk
  obtain ⟨x, pl, s, rfl, hf, _, hs⟩ := hy
  unfold reachBytes at hs ht
  exact matchBytes_any ks v x pl s t (by omega) w hk1 hk2 hf hm
end Go.Proofs.YtmlmkcpdgcojlaaDoor
