/- Opening arguments that are slices, by what they read as; the bulk of what is read. Opening states and requests: what the form says of a parameter, as the walks ask it. (written by tools/gen_MnO.py) light: walked. Which states are right: plain. -/
import Derived.Test.YtdobbfjmlnlieaaGreatRows
import Derived.Test.YtdobbfjmlnlieaaGreatB01
import Derived.WalkKit
import Derived.ProofKit
import Derived.SliceStrings
import Derived.OpenShut
import Derived.Test.YtdobbfjmlnlieaaGreatB18
import Derived.Test.YtdobbfjmlnlieaaGreatOpen
import Derived.SizedLaws
import Derived.Deep.Slices
namespace Go.Proofs.YtdobbfjmlnlieaaGreat
open Go.ChangeShapes Go.WideShapes Go.ChangeAt Go.RowKit

theorem cell_spot {w : World} {a : Addr} {v : Value} (h : w.cell? a = some v) : a.spot = none ∧ a.block < w.heap.size := by
  unfold World.cell? at h
  split at h
  · rename_i heq
    refine ⟨?_, (Array.getElem?_eq_some_iff.1 heq).1⟩
    cases hs : a.spot with
    | none => rfl
    | some x => simp [hs] at h
  · cases h
end Go.Proofs.YtdobbfjmlnlieaaGreat
namespace Go.Proofs.YtdobbfjmlnlieaaGreat
set_option linter.unusedSimpArgs false
open Go.ChangeShapes Go.WideShapes Go.ChangeAt Go.RowKit Go.Deep

theorem add_spotless {a : Addr} (hs : a.spot = none) (i : Nat) : a.add i = ⟨a.block, a.off + i, none⟩ := by
  cases a with
  | mk x y z => simp at hs; subst hs; exact Addr.add_lit ..
theorem add_adds (a : Addr) (hs : a.spot = none) (i j : Nat) : (a.add i).add j = ⟨a.block, a.off + i + j, none⟩ := by
  rw [add_spotless hs]; exact Addr.add_lit ..
theorem nat_u64 {n : Int} (h : (Lit.int .u64 n).wf = true) : ∃ k : Nat, n = (k : Int) := by
  have := bounds_u64 h
  exact ⟨n.toNat, by omega⟩
section
variable {H : Type} {enc : TypeId × Value → H} {w : World} {base : Nat} {spare : Nat → Bool} {held : Bool}
theorem trod_field {P : Program} {m : Nat} {fs : Array Field} {cs : List Value} {xs : List (DataW H × List MemPlace)}
    (h : ∀ (i : Nat) (f : Field), fs[i]? = some f → DataW.trod enc P w base spare held m f.type ((cs.drop f.offset).take (P.cellsOf f.type)) = xs[i]?) (i : Nat) {f : Field} {t o n : Nat} {cs' : List Value} {x : DataW H × List MemPlace}
    (hf : fs[i]? = some f) (ht : f.type = t) (ho : f.offset = o) (hc : P.cellsOf t = n) (hcs : (cs.drop o).take n = cs') (hx : xs[i]? = some x) : DataW.trod enc P w base spare held m t cs' = some x := by
  subst ht ho hc hcs
  rw [h i f hf, hx]
theorem open_u64 {cs : List Value} {y : DataW H × List MemPlace} {fuel : Nat} (h : DataW.trod enc Tryz.prog w base spare held fuel 23 cs = some y) : ∃ n : Nat, cs = [.int .u64 n] := by
  obtain ⟨n, hcs, _, hw⟩ := DataW.trod_int Tryz.underlying23 h
  obtain ⟨k, rfl⟩ := nat_u64 hw
  exact ⟨k, hcs⟩
theorem open_int {cs : List Value} {y : DataW H × List MemPlace} {fuel : Nat} (h : DataW.trod enc Tryz.prog w base spare held fuel 3 cs = some y) : ∃ n : Int, cs = [.int .i64 n] := by
  obtain ⟨n, hcs, _, _⟩ := DataW.trod_int Tryz.underlying3 h
  exact ⟨n, hcs⟩
theorem open_bool {cs : List Value} {y : DataW H × List MemPlace} {fuel : Nat} (h : DataW.trod enc Tryz.prog w base spare held fuel 4 cs = some y) : ∃ n : Bool, cs = [.bool n] := by
  obtain ⟨n, hcs, _⟩ := DataW.trod_bool Tryz.underlying4 h
  exact ⟨n, hcs⟩
theorem open_str {cs : List Value} {y : DataW H × List MemPlace} {fuel : Nat} (h : DataW.trod enc Tryz.prog w base spare held fuel 9 cs = some y) : ∃ n : ByteArray, cs = [.string n] := by
  obtain ⟨n, hcs, _, _⟩ := DataW.trod_string Tryz.underlying9 h
  exact ⟨n, hcs⟩
/-- a slice of texts as a part -/
theorem open_flagsP {cs : List Value} {y : DataW H × List MemPlace} {fuel : Nat} (h : DataW.trod enc Tryz.prog w base spare held fuel 39 cs = some y) :
    ∃ (a : Option Addr) (l : List (List UInt8)) (cap : Nat), cs = [.slice a l.length cap] ∧ FlIn w (.slice a l.length cap) l := by
  rcases open_strings Tryz.underlying39 Tryz.underlying9 (by kernel_rfl) h with ⟨hcs, hx⟩ | ⟨a, len, cap, ss, hcs, _, hl, hm, hz, hx, hcell, hsz⟩
  · exact ⟨none, [], 0, hcs, none, 0, rfl, .inl rfl⟩
  · have hle : len ≤ ss.length := by rw [hz]; split <;> omega
    have hll : ((ss.take len).map (·.data.toList)).length = len := by rw [List.length_map, List.length_take]; omega
    refine ⟨some a, (ss.take len).map (·.data.toList), cap, by rw [hll]; exact hcs, some a, cap, rfl, ?_⟩
    rcases Nat.eq_zero_or_pos len with h0 | h0
    · exact .inl (by rw [hll]; exact h0)
    · right
      obtain ⟨hs, hb⟩ := cell_spot (hcell 0 (by omega))
      have e0 : a.add 0 = a := rfl
      rw [e0] at hs hb
      refine ⟨a.block, a.off, by cases a; simp at hs; subst hs; rfl, hb, by rw [hll]; exact hl, fun i u hu => ?_⟩
      have hi : i < len := by
        have := (List.getElem?_eq_some_iff.1 hu).1
        rw [List.length_map, hll] at this
        exact this
      have hc := hcell i (by omega)
      rw [add_spotless hs] at hc
      rw [hc]
      have hget : (((ss.take len).map (·.data.toList)).map encStr)[i]? = some (.string (ss.getD i ByteArray.empty)) := by
        rw [List.getElem?_map, List.getElem?_map, List.getElem?_take_of_lt hi, List.getElem?_eq_getElem (by omega)]
        simp [List.getD, List.getElem?_eq_getElem (show i < ss.length by omega), encStr]
      rw [hget] at hu
      exact hu
/-- a slice of structs as a part -/
theorem open_row {α : Type} [Inhabited α] (R : RT α) {Q : α → Prop} (hc : Tryz.prog.cellsOf R.t = R.K)
    (elem : ∀ {fuel : Nat} {cs : List Value} {y : DataW H × List MemPlace}, cs.length = R.K → DataW.trod enc Tryz.prog w base spare held fuel R.t cs = some y → ∃ x, cs = R.enc x ∧ Q x)
    {cs : List Value} {y : DataW H × List MemPlace} {fuel : Nat} (h : DataW.trod enc Tryz.prog w base spare held fuel R.ts cs = some y) :
    ∃ (a : Option Addr) (l : List α) (cap : Nat), cs = [.slice a l.length cap] ∧ Rd w (.slice a l.length cap) l.length (R.cells l) ∧ ∀ x ∈ l, Q x := by
  rcases open_slice R.und h with ⟨hcs, _⟩ | ⟨a, len, cap, m, n, D, Pl, hcs, _, hl, hm, hmm, _, hall⟩
  · exact ⟨none, [], 0, hcs, ⟨none, 0, rfl, .inl rfl⟩, fun x hx => by cases hx⟩
  · have hlm : len ≤ m := by rw [hmm]; split <;> omega
    rw [hc] at hall
    obtain ⟨q, hq⟩ := choose_lt (α := α) (n := len) (p := fun i x => (∀ j, j < R.K → w.cell? ((a.add (i * R.K)).add j) = (R.enc x)[j]?) ∧ Q x) (fun i hi => by
      obtain ⟨cs', hc', ht⟩ := hall i (by omega)
      obtain ⟨_, hcl, hat⟩ := World.cells?_some hc'
      obtain ⟨x, rfl, hx⟩ := elem hcl ht
      exact ⟨x, hat, hx⟩)
    have hlen : ((List.range len).map q).length = len := by simp
    refine ⟨some a, (List.range len).map q, cap, by rw [hlen]; exact hcs, ⟨some a, cap, rfl, ?_⟩, fun x hx => ?_⟩
    · rcases Nat.eq_zero_or_pos len with hz | hz
      · exact .inl (by rw [hlen]; exact hz)
      · right
        have hpos := R.pos
        have c0 := (hq 0 (by omega)).1 0 hpos
        have e0 : (a.add (0 * R.K)).add 0 = a := by rw [Nat.zero_mul]; rfl
        rw [e0, List.getElem?_eq_getElem (by rw [R.len]; exact hpos)] at c0
        obtain ⟨hsp, hbl⟩ := cell_spot c0
        refine ⟨a.block, a.off, by cases a; simp at hsp; subst hsp; rfl, hbl, by rw [hlen]; exact hl, fun i u hu => ?_⟩
        have hi := (List.getElem?_eq_some_iff.1 hu).1
        rw [R.cells_len, hlen] at hi
        have hd : i / R.K < len := Nat.div_lt_of_lt_mul (by rw [Nat.mul_comm]; exact hi)
        have hr : i % R.K < R.K := Nat.mod_lt _ hpos
        have hsplit : i / R.K * R.K + i % R.K = i := by rw [Nat.mul_comm]; exact Nat.div_add_mod i R.K
        have g := (hq (i / R.K) hd).1 (i % R.K) hr
        rw [add_adds a hsp, Nat.add_assoc, hsplit] at g
        rw [g]
        have hg := R.cells_get ((List.range len).map q) (i / R.K) (by rw [hlen]; exact hd) (i % R.K) hr
        rw [hsplit, hu, List.getElem_map, List.getElem_range] at hg
        exact hg.symm
    · obtain ⟨i, hi, rfl⟩ := List.mem_map.1 hx
      exact (hq i (List.mem_range.1 hi)).2
theorem c_u64 : Tryz.prog.cellsOf 23 = 1 := by kernel_rfl
theorem c_int : Tryz.prog.cellsOf 3 = 1 := by kernel_rfl
theorem c_bool : Tryz.prog.cellsOf 4 = 1 := by kernel_rfl
theorem c_str : Tryz.prog.cellsOf 9 = 1 := by kernel_rfl
theorem c_strs : Tryz.prog.cellsOf 39 = 1 := by kernel_rfl
theorem c_lts : Tryz.prog.cellsOf 46 = 1 := by kernel_rfl
theorem c_bxs : Tryz.prog.cellsOf 22 = 1 := by kernel_rfl
theorem c_hms : Tryz.prog.cellsOf 24 = 1 := by kernel_rfl
theorem c_sts : Tryz.prog.cellsOf 25 = 1 := by kernel_rfl
theorem c_rgs : Tryz.prog.cellsOf 38 = 1 := by kernel_rfl
instance : Inhabited LtV := ⟨⟨⟨0, [], 0, ⟨#[]⟩, 0⟩, none, 0⟩⟩
instance : Inhabited BxV := ⟨⟨⟨#[]⟩, 0, 0, 0, [], none, 0⟩⟩
instance : Inhabited Hm := ⟨⟨0, 0, 0⟩⟩
instance : Inhabited St := ⟨⟨0, 0, 0, 0, 0⟩⟩
instance : Inhabited RqP := ⟨⟨0, 0, 0, 0, 0, 0, ⟨#[]⟩, ⟨#[]⟩, 0, [], [], 0, false, 0, ⟨#[]⟩, 0, 0⟩, ⟨none, 0, none, 0⟩⟩
set_option maxRecDepth 10000 in
set_option maxHeartbeats 4000000 in
theorem open_lt {cs : List Value} {y : DataW H × List MemPlace} {fuel : Nat} (hl : cs.length = 5) (h : DataW.trod enc Tryz.prog w base spare held fuel 50 cs = some y) : ∃ k : LtV, cs = ltT.enc k ∧ FlIn w k.v k.x.flags := by
  match cs, hl with
  | [c0, c1, c2, c3, c4], _ =>
    obtain ⟨xs, m, _, _, _, hx, hall⟩ := DataW.trod_struct Tryz.underlying50 h
    match xs, hx with
    | [x0, x1, x2, x3, x4], _ =>
      obtain ⟨uid, e0⟩ := open_u64 (trod_field hall 0 (o := 0) (cs' := [c0]) rfl rfl rfl c_u64 rfl rfl)
      obtain ⟨fa, fl, fc, e1, hf⟩ := open_flagsP (trod_field hall 1 (o := 1) (cs' := [c1]) rfl rfl rfl c_strs rfl rfl)
      obtain ⟨md, e2⟩ := open_u64 (trod_field hall 2 (o := 2) (cs' := [c2]) rfl rfl rfl c_u64 rfl rfl)
      obtain ⟨hs, e3⟩ := open_str (trod_field hall 3 (o := 3) (cs' := [c3]) rfl rfl rfl c_str rfl rfl)
      obtain ⟨sz, e4⟩ := open_u64 (trod_field hall 4 (o := 4) (cs' := [c4]) rfl rfl rfl c_u64 rfl rfl)
      simp only [List.cons.injEq, and_true] at e0 e1 e2 e3 e4
      subst e0 e1 e2 e3 e4
      exact ⟨⟨⟨uid, fl, md, hs, sz⟩, fa, fc⟩, rfl, hf⟩
set_option maxRecDepth 10000 in
set_option maxHeartbeats 4000000 in
theorem open_bx {cs : List Value} {y : DataW H × List MemPlace} {fuel : Nat} (hl : cs.length = 5) (h : DataW.trod enc Tryz.prog w base spare held fuel 48 cs = some y) : ∃ k : BxV, cs = bxT.enc k ∧ LtsIn w k.v k.rows := by
  match cs, hl with
  | [c0, c1, c2, c3, c4], _ =>
    obtain ⟨xs, m, _, _, _, hx, hall⟩ := DataW.trod_struct Tryz.underlying48 h
    match xs, hx with
    | [x0, x1, x2, x3, x4], _ =>
      obtain ⟨nm, e0⟩ := open_str (trod_field hall 0 (o := 0) (cs' := [c0]) rfl rfl rfl c_str rfl rfl)
      obtain ⟨va, e1⟩ := open_u64 (trod_field hall 1 (o := 1) (cs' := [c1]) rfl rfl rfl c_u64 rfl rfl)
      obtain ⟨nx, e2⟩ := open_u64 (trod_field hall 2 (o := 2) (cs' := [c2]) rfl rfl rfl c_u64 rfl rfl)
      obtain ⟨hg, e3⟩ := open_u64 (trod_field hall 3 (o := 3) (cs' := [c3]) rfl rfl rfl c_u64 rfl rfl)
      obtain ⟨la, ll, lc, e4, ⟨hr, hq⟩⟩ := open_row ltT (Q := fun k => FlIn w k.v k.x.flags) (by kernel_rfl) (fun hl ht => open_lt hl ht) (trod_field hall 4 (o := 4) (cs' := [c4]) rfl rfl rfl c_lts rfl rfl)
      simp only [List.cons.injEq, and_true] at e0 e1 e2 e3 e4
      subst e0 e1 e2 e3 e4
      exact ⟨⟨nm, va, nx, hg, ll, la, lc⟩, rfl, hr, hq⟩
set_option maxRecDepth 10000 in
set_option maxHeartbeats 4000000 in
theorem open_hm {cs : List Value} {y : DataW H × List MemPlace} {fuel : Nat} (hl : cs.length = 3) (h : DataW.trod enc Tryz.prog w base spare held fuel 67 cs = some y) : ∃ k : Hm, cs = hmT.enc k ∧ True := by
  match cs, hl with
  | [c0, c1, c2], _ =>
    obtain ⟨xs, m, _, _, _, hx, hall⟩ := DataW.trod_struct Tryz.underlying67 h
    match xs, hx with
    | [x0, x1, x2], _ =>
      obtain ⟨nd, e0⟩ := open_int (trod_field hall 0 (o := 0) (cs' := [c0]) rfl rfl rfl c_int rfl rfl)
      obtain ⟨li, e1⟩ := open_u64 (trod_field hall 1 (o := 1) (cs' := [c1]) rfl rfl rfl c_u64 rfl rfl)
      obtain ⟨tr, e2⟩ := open_u64 (trod_field hall 2 (o := 2) (cs' := [c2]) rfl rfl rfl c_u64 rfl rfl)
      simp only [List.cons.injEq, and_true] at e0 e1 e2
      subst e0 e1 e2
      exact ⟨⟨nd, li, tr⟩, rfl, trivial⟩
set_option maxRecDepth 10000 in
set_option maxHeartbeats 4000000 in
theorem open_st {cs : List Value} {y : DataW H × List MemPlace} {fuel : Nat} (hl : cs.length = 5) (h : DataW.trod enc Tryz.prog w base spare held fuel 69 cs = some y) : ∃ k : St, cs = stT.enc k ∧ True := by
  match cs, hl with
  | [c0, c1, c2, c3, c4], _ =>
    obtain ⟨xs, m, _, _, _, hx, hall⟩ := DataW.trod_struct Tryz.underlying69 h
    match xs, hx with
    | [x0, x1, x2, x3, x4], _ =>
      obtain ⟨se, e0⟩ := open_u64 (trod_field hall 0 (o := 0) (cs' := [c0]) rfl rfl rfl c_u64 rfl rfl)
      obtain ⟨la, e1⟩ := open_u64 (trod_field hall 1 (o := 1) (cs' := [c1]) rfl rfl rfl c_u64 rfl rfl)
      obtain ⟨nd, e2⟩ := open_int (trod_field hall 2 (o := 2) (cs' := [c2]) rfl rfl rfl c_int rfl rfl)
      obtain ⟨li, e3⟩ := open_u64 (trod_field hall 3 (o := 3) (cs' := [c3]) rfl rfl rfl c_u64 rfl rfl)
      obtain ⟨tr, e4⟩ := open_u64 (trod_field hall 4 (o := 4) (cs' := [c4]) rfl rfl rfl c_u64 rfl rfl)
      simp only [List.cons.injEq, and_true] at e0 e1 e2 e3 e4
      subst e0 e1 e2 e3 e4
      exact ⟨⟨se, la, nd, li, tr⟩, rfl, trivial⟩
set_option maxRecDepth 10000 in
set_option maxHeartbeats 4000000 in
theorem open_ml {cs : List Value} {y : DataW H × List MemPlace} {fuel : Nat} (hl : cs.length = 6) (h : DataW.trod enc Tryz.prog w base spare held fuel 27 cs = some y) : ∃ m : Ml, MlIn w (.agg cs.toArray) m := by
  match cs, hl with
  | [c0, c1, c2, c3, c4, c5], _ =>
    obtain ⟨xs, m, _, _, _, hx, hall⟩ := DataW.trod_struct Tryz.underlying27 h
    match xs, hx with
    | [x0, x1, x2, x3, x4, x5], _ =>
      obtain ⟨ba, bl, bc, e0, ⟨hr, hq⟩⟩ := open_row bxT (Q := fun k => LtsIn w k.v k.rows) (by kernel_rfl) (fun hl ht => open_bx hl ht) (trod_field hall 0 (o := 0) (cs' := [c0]) rfl rfl rfl c_bxs rfl rfl)
      obtain ⟨nv, e1⟩ := open_u64 (trod_field hall 1 (o := 1) (cs' := [c1]) rfl rfl rfl c_u64 rfl rfl)
      obtain ⟨ha, hl2, hc, e2, ⟨hh, _⟩⟩ := open_row hmT (Q := fun _ => True) (by kernel_rfl) (fun hl ht => open_hm hl ht) (trod_field hall 2 (o := 2) (cs' := [c2]) rfl rfl rfl c_hms rfl rfl)
      obtain ⟨sa, sl, sc, e3, ⟨hs, _⟩⟩ := open_row stT (Q := fun _ => True) (by kernel_rfl) (fun hl ht => open_st hl ht) (trod_field hall 3 (o := 3) (cs' := [c3]) rfl rfl rfl c_sts rfl rfl)
      obtain ⟨ns, e4⟩ := open_u64 (trod_field hall 4 (o := 4) (cs' := [c4]) rfl rfl rfl c_u64 rfl rfl)
      obtain ⟨sw, e5⟩ := open_u64 (trod_field hall 5 (o := 5) (cs' := [c5]) rfl rfl rfl c_u64 rfl rfl)
      simp only [List.cons.injEq, and_true] at e0 e1 e2 e3 e4 e5
      subst e0 e1 e2 e3 e4 e5
      exact ⟨⟨bl.map BxV.b, nv, hl2, sl, ns, sw⟩, _, _, _, bl, rfl, rfl, ⟨hr, hq⟩, hh, hs⟩
theorem open_rg {cs : List Value} {y : DataW H × List MemPlace} {fuel : Nat} (hl : cs.length = 2) (h : DataW.trod enc Tryz.prog w base spare held fuel 129 cs = some y) : ∃ k : Rng, cs = [.int .u64 k.1, .int .u64 k.2] := by
  match cs, hl with
  | [c0, c1], _ =>
    obtain ⟨xs, m, _, _, _, hx, hall⟩ := DataW.trod_struct Tryz.underlying129 h
    match xs, hx with
    | [x0, x1], _ =>
      obtain ⟨a, e0⟩ := open_u64 (trod_field hall 0 (o := 0) (cs' := [c0]) rfl rfl rfl c_u64 rfl rfl)
      obtain ⟨b, e1⟩ := open_u64 (trod_field hall 1 (o := 1) (cs' := [c1]) rfl rfl rfl c_u64 rfl rfl)
      simp only [List.cons.injEq, and_true] at e0 e1
      subst e0 e1
      exact ⟨(a, b), rfl⟩
theorem open_rgs {cs : List Value} {y : DataW H × List MemPlace} {fuel : Nat} (h : DataW.trod enc Tryz.prog w base spare held fuel 38 cs = some y) :
    ∃ (a : Option Addr) (l : List Rng) (cap : Nat), cs = [.slice a l.length cap] ∧ RangesIn w w.heap.size (.slice a l.length cap) l := by
  rcases open_slice Tryz.underlying38 h with ⟨hcs, _⟩ | ⟨a, len, cap, m, n, D, Pl, hcs, _, hl, hm, hmm, _, hall⟩
  · exact ⟨none, [], 0, hcs, none, 0, rfl, .inl rfl⟩
  · have hlm : len ≤ m := by rw [hmm]; split <;> omega
    rw [show Tryz.prog.cellsOf 129 = 2 by kernel_rfl] at hall
    obtain ⟨q, hq⟩ := choose_lt (α := Rng) (n := len) (p := fun i k => ∀ j, j < 2 → w.cell? ((a.add (i * 2)).add j) = ([.int .u64 k.1, .int .u64 k.2] : List Value)[j]?) (fun i hi => by
      obtain ⟨cs', hc, ht⟩ := hall i (by omega)
      obtain ⟨_, hcl, hat⟩ := World.cells?_some hc
      obtain ⟨k, rfl⟩ := open_rg hcl ht
      exact ⟨k, hat⟩)
    have hlen : ((List.range len).map q).length = len := by simp
    refine ⟨some a, (List.range len).map q, cap, by rw [hlen]; exact hcs, some a, cap, by rw [hlen], ?_⟩
    rcases Nat.eq_zero_or_pos len with hz | hz
    · exact .inl (List.eq_nil_of_length_eq_zero (by rw [hlen]; exact hz))
    · right
      have c0 := (hq 0 (by omega)) 0 (by decide)
      have e0 : (a.add (0 * 2)).add 0 = a := rfl
      rw [e0] at c0
      obtain ⟨hsp, hbl⟩ := cell_spot c0
      refine ⟨a.block, a.off, by cases a; simp at hsp; subst hsp; rfl, hbl, by rw [hlen]; exact hl, fun j hj => ?_⟩
      rw [hlen] at hj
      have g := hq j hj
      simp only [add_adds a hsp] at g
      rw [List.getElem_map, List.getElem_range]
      exact ⟨g 0 (by decide), g 1 (by decide)⟩
set_option maxRecDepth 10000 in
set_option maxHeartbeats 4000000 in
theorem open_rq {cs : List Value} {y : DataW H × List MemPlace} {fuel : Nat} (hl : cs.length = 17) (h : DataW.trod enc Tryz.prog w base spare held fuel 41 cs = some y) : ∃ k : RqP, cs = rqT.enc k ∧ RqIn w k.1 k.2 := by
  match cs, hl with
  | [c0, c1, c2, c3, c4, c5, c6, c7, c8, c9, c10, c11, c12, c13, c14, c15, c16], _ =>
    obtain ⟨xs, m, _, _, _, hx, hall⟩ := DataW.trod_struct Tryz.underlying41 h
    match xs, hx with
    | [x0, x1, x2, x3, x4, x5, x6, x7, x8, x9, x10, x11, x12, x13, x14, x15, x16], _ =>
      obtain ⟨op, e0⟩ := open_int (trod_field hall 0 (o := 0) (cs' := [c0]) rfl rfl rfl c_int rfl rfl)
      obtain ⟨se, e1⟩ := open_u64 (trod_field hall 1 (o := 1) (cs' := [c1]) rfl rfl rfl c_u64 rfl rfl)
      obtain ⟨nu, e2⟩ := open_u64 (trod_field hall 2 (o := 2) (cs' := [c2]) rfl rfl rfl c_u64 rfl rfl)
      obtain ⟨nd, e3⟩ := open_int (trod_field hall 3 (o := 3) (cs' := [c3]) rfl rfl rfl c_int rfl rfl)
      obtain ⟨li, e4⟩ := open_u64 (trod_field hall 4 (o := 4) (cs' := [c4]) rfl rfl rfl c_u64 rfl rfl)
      obtain ⟨tr, e5⟩ := open_u64 (trod_field hall 5 (o := 5) (cs' := [c5]) rfl rfl rfl c_u64 rfl rfl)
      obtain ⟨bx, e6⟩ := open_str (trod_field hall 6 (o := 6) (cs' := [c6]) rfl rfl rfl c_str rfl rfl)
      obtain ⟨too, e7⟩ := open_str (trod_field hall 7 (o := 7) (cs' := [c7]) rfl rfl rfl c_str rfl rfl)
      obtain ⟨va, e8⟩ := open_u64 (trod_field hall 8 (o := 8) (cs' := [c8]) rfl rfl rfl c_u64 rfl rfl)
      obtain ⟨ua, ul, uc, e9, hu⟩ := open_rgs (trod_field hall 9 (o := 9) (cs' := [c9]) rfl rfl rfl c_rgs rfl rfl)
      obtain ⟨fa, fl, fc, e10, hf⟩ := open_flagsP (trod_field hall 10 (o := 10) (cs' := [c10]) rfl rfl rfl c_strs rfl rfl)
      obtain ⟨hw, e11⟩ := open_int (trod_field hall 11 (o := 11) (cs' := [c11]) rfl rfl rfl c_int rfl rfl)
      obtain ⟨ha, e12⟩ := open_bool (trod_field hall 12 (o := 12) (cs' := [c12]) rfl rfl rfl c_bool rfl rfl)
      obtain ⟨si, e13⟩ := open_u64 (trod_field hall 13 (o := 13) (cs' := [c13]) rfl rfl rfl c_u64 rfl rfl)
      obtain ⟨hs, e14⟩ := open_str (trod_field hall 14 (o := 14) (cs' := [c14]) rfl rfl rfl c_str rfl rfl)
      obtain ⟨sz, e15⟩ := open_u64 (trod_field hall 15 (o := 15) (cs' := [c15]) rfl rfl rfl c_u64 rfl rfl)
      obtain ⟨sw, e16⟩ := open_u64 (trod_field hall 16 (o := 16) (cs' := [c16]) rfl rfl rfl c_u64 rfl rfl)
      simp only [List.cons.injEq, and_true] at e0 e1 e2 e3 e4 e5 e6 e7 e8 e9 e10 e11 e12 e13 e14 e15 e16
      subst e0 e1 e2 e3 e4 e5 e6 e7 e8 e9 e10 e11 e12 e13 e14 e15 e16
      exact ⟨⟨⟨op, se, nu, nd, li, tr, bx, too, va, ul, fl, hw, ha, si, hs, sz, sw⟩, ⟨ua, uc, fa, fc⟩⟩, rfl, hu, hf⟩
set_option maxRecDepth 10000 in
/-- a state, as a parameter -/
theorem open_mail {r : Reach} {b : Nat} {v : Value} {d : DataW H} {p : List MemPlace} (hv : Value.okWide Tryz.prog w r b 27 v) (h : DataW.Trod enc Tryz.prog w base spare held 27 v d p) : ∃ m : Ml, MlIn w v m := by
  obtain ⟨cs, rfl, hsz⟩ := okWide_struct Tryz.underlying27 hv
  rw [show Tryz.prog.cellsOf 27 = 6 by kernel_rfl] at hsz
  obtain ⟨l⟩ := cs
  obtain ⟨fuel, hf⟩ := h
  simp only [Value.cells] at hf
  exact open_ml (by simpa using hsz) hf
set_option maxRecDepth 10000 in
/-- a request, as a parameter -/
theorem open_request {r : Reach} {b : Nat} {v : Value} {d : DataW H} {p : List MemPlace} (hv : Value.okWide Tryz.prog w r b 41 v) (h : DataW.Trod enc Tryz.prog w base spare held 41 v d p) : ∃ k : RqP, v = .agg (rqT.enc k).toArray ∧ RqIn w k.1 k.2 := by
  obtain ⟨cs, rfl, hsz⟩ := okWide_struct Tryz.underlying41 hv
  rw [show Tryz.prog.cellsOf 41 = 17 by kernel_rfl] at hsz
  obtain ⟨l⟩ := cs
  obtain ⟨fuel, hf⟩ := h
  simp only [Value.cells] at hf
  obtain ⟨k, h1, h2⟩ := open_rq (by simpa using hsz) hf
  exact ⟨k, by rw [← h1], h2⟩
end
end Go.Proofs.YtdobbfjmlnlieaaGreat
namespace Go.Proofs.YtdobbfjmlnlieaaGreat
set_option linter.unusedSimpArgs false
open Go.RowKit
attribute [local go_sem ↓] Go.wp_at_zero Go.wp_at_succ

theorem few_q (n : Nat) (w : World) : Calls Tryz.prog 31 #[.int .i64 n] w fun e w' => e = .returned (.int .i64 (fewN n)) ∧ w' = w := (few_any n w).mono fun _ _ h => ⟨h.1, h.2.symm⟩
theorem texts_q {w : World} {v : Value} {l : List (List UInt8)} (hr : FlIn w v l) (n : Nat) : Calls Tryz.prog 32 #[v] (w.drewN n) fun e w'' => e = .returned (.int .i64 (textsN l)) ∧ w'' = w.drewN n := (texts_any v l (w.drewN n) (Rd.below hr (below_drewN (Below.refl _ _) n))).mono fun _ _ h => ⟨h.1, h.2.symm⟩
theorem idx_map {α β : Type} {f : α → β} {l : List α} {m : List β} (h : l.map f = m) {i : Nat} (hi : i < l.length) : m[i]? = some (f l[i]) := by
  rw [← h, List.getElem?_map, List.getElem?_eq_getElem hi]; rfl
theorem light_off {m : Ml} {l : List Rq} {i : Nat} {b : Bx} (hb : m.boxes[i]? = some b) (h : 500 < b.letters.length) : lightB m l = false :=
  light_no (fun _ _ _ _ h5 _ => absurd (h5 b (List.mem_of_getElem? hb)) (by omega))
set_option maxRecDepth 100000 in
set_option maxHeartbeats 16000000 in
theorem light_any {W : World} {m : Ml} {l : List RqP} (v lv : Value) (hin : MlIn W v m) (hl : RqsIn W lv l) :
    Calls Tryz.prog 12 #[v, lv] W fun e w' => e = .returned (.bool (lightB m (l.map (·.1)))) ∧ Hid (Below W.heap.size W w') := by
  obtain ⟨vb, vh, vs, bs, rfl, hbs, hib, hih, his⟩ := hin
  have hlb : bs.length = m.boxes.length := by rw [← hbs, List.length_map]
  have hib0 := Lib.hid (fun (W' : World) (h : Below W.heap.size W W') => hib.below h)
  have hl0 := Lib.hid (fun (W' : World) (h : Below W.heap.size W W') => hl.below h)
  obtain ⟨ab, cb, rfl, -⟩ := hib.1
  obtain ⟨ah, ch, rfl, -⟩ := hih
  obtain ⟨as_, cs, rfl, -⟩ := his
  obtain ⟨al, cl, rfl, -⟩ := hl.1
  have hz1 := (Zoo.nil W).newBox [.slice ab bs.length cb, .int .u64 m.nv, .slice ah m.homes.length ch, .slice as_ m.seats.length cs, .int .u64 m.ns, .int .u64 m.sweeps].toArray 27
  generalize hMB : W.heap.size = MB at hz1
  generalize hWa : (W.alloc (.cells [.slice ab bs.length cb, .int .u64 m.nv, .slice ah m.homes.length ch, .slice as_ m.seats.length cs, .int .u64 m.ns, .int .u64 m.sweeps].toArray 27)) = Wa at hz1
  have hmb := (hz1.box 0 rfl).1
  have q0 : Wa.cell? ⟨MB, 0, none⟩ = some (.slice ab bs.length cb) := box_cell hmb 0
  have q2 : Wa.cell? ⟨MB, 2, none⟩ = some (.slice ah m.homes.length ch) := box_cell hmb 2
  have q3 : Wa.cell? ⟨MB, 3, none⟩ = some (.slice as_ m.seats.length cs) := box_cell hmb 3
  have hbel : Hid (Below MB W Wa) := Lib.hid (hMB ▸ hz1.bel)
  have hmb0 : Hid (∀ wr, Below Wa.heap.size Wa wr → wr.cell? ⟨MB, 0, none⟩ = some (.slice ab bs.length cb)) := Lib.hid (fun wr h => box_cell (heap_below hmb h) 0)
  replace hbs := Lib.hid hbs
  replace hlb := Lib.hid hlb
  have hz1b := Lib.hid hz1.bel
  unfold mlVal
  by_cases c1 : 50 < bs.length
  · have c1' : (50 : Int) < (bs.length : Int) := by omega
    have hr := Lib.hid (light_no (m := m) (l := l.map (·.1)) (fun h => absurd h (by have := hlb.out; omega)))
    clear hib hl hmb hz1 c1
    go_enter Tryz.func12, Tryz.ntmps12
    go_wp2_with fail
    go_ret
    exact ⟨ret_bool hr.out.symm, hbel⟩
  have c1' : decide ((50 : Int) < (bs.length : Int)) = false := decide_eq_false (by omega)
  by_cases c2 : 100 < m.seats.length
  · have c2' : (100 : Int) < (m.seats.length : Int) := by omega
    have hr := Lib.hid (light_no (m := m) (l := l.map (·.1)) (fun _ h => absurd h (by omega)))
    clear hib hl hmb hz1 c1 c2
    go_enter Tryz.func12, Tryz.ntmps12
    go_wp2_with fail
    go_ret
    exact ⟨ret_bool hr.out.symm, hbel⟩
  have c2' : decide ((100 : Int) < (m.seats.length : Int)) = false := decide_eq_false (by omega)
  by_cases c3 : 50 < m.homes.length
  · have c3' : (50 : Int) < (m.homes.length : Int) := by omega
    have hr := Lib.hid (light_no (m := m) (l := l.map (·.1)) (fun _ _ h => absurd h (by omega)))
    clear hib hl hmb hz1 c1 c2 c3
    go_enter Tryz.func12, Tryz.ntmps12
    go_wp2_with fail
    go_ret
    exact ⟨ret_bool hr.out.symm, hbel⟩
  have c3' : decide ((50 : Int) < (m.homes.length : Int)) = false := decide_eq_false (by omega)
  by_cases c4 : 200 < l.length
  · have c4' : (200 : Int) < (l.length : Int) := by omega
    have hr := Lib.hid (light_no (m := m) (l := l.map (·.1)) (fun _ _ _ h => absurd h (by rw [List.length_map]; omega)))
    clear hib hl hmb hz1 c1 c2 c3 c4
    go_enter Tryz.func12, Tryz.ntmps12
    go_wp2_with fail
    go_ret
    exact ⟨ret_bool hr.out.symm, hbel⟩
  have c4' : decide ((200 : Int) < (l.length : Int)) = false := decide_eq_false (by omega)
  have e1 : bs.length ≤ 50 := by omega
  have e2 : m.seats.length ≤ 100 := by omega
  have e3 : m.homes.length ≤ 50 := by omega
  have e4 : l.length ≤ 200 := by omega
  clear hib hl hmb hz1 c1 c2 c3 c4
  go_enter Tryz.func12, Tryz.ntmps12
  go_wp2_with fail
  clear q0 q2 q3 c1' c2' c3' c4'
  go_loopw [5, 6] (fun v5 v6 wr => ∃ i N : Nat, v6 = .int .i64 i ∧ v5 = .int .i64 N ∧ i ≤ bs.length ∧ Hid (N = bs.length + m.seats.length + m.homes.length + ((m.boxes.take i).map boxN).sum) ∧ Hid (∀ j b, j < i → m.boxes[j]? = some b → b.letters.length ≤ 500) ∧ Hid (Below Wa.heap.size Wa wr)) (fun _ v6 _ => bs.length - (intOf v6).toNat)
  case atStart => exact ⟨0, bs.length + m.seats.length + m.homes.length, rfl, by go_num, Nat.zero_le _, Lib.hid (by simp), Lib.hid (fun j b hj => by omega), Lib.hid (Below.refl _ _)⟩
  case round =>
    obtain ⟨i, N, rfl, rfl, hi, hN, h500, hb⟩ := hrel
    have hbW : Below W.heap.size W wr := hz1b.out.trans (hb.out.mono hz1b.out.size)
    by_cases hlt : i < bs.length
    · have hib1 := hib0.out wr hbW
      obtain ⟨b, bo, cap, hv, -, hblt, hcells⟩ := bxT.rd_cells hib1.1 hlt
      injection hv with hv1 hv2 hv3
      subst hv1 hv3
      have q0 := hmb0.out wr hb.out
      have hmx := idx_map hbs.out hlt
      have hLts := hib1.2 _ (List.getElem_mem hlt)
      have h5s : Hid (m.boxes[i]? = some bs[i].b) := Lib.hid hmx
      have hsum : Hid (((m.boxes.take (i + 1)).map boxN).sum = ((m.boxes.take i).map boxN).sum + boxN bs[i].b) := Lib.hid (by
        have hi2 : i < m.boxes.length := by have := hlb.out; omega
        have e := List.getElem?_eq_getElem hi2
        rw [hmx] at e
        rw [sum_take boxN m.boxes i hi2, ← Option.some.inj e])
      have hNb : N ≤ 200 + 50 * 6571133076 := by
        have h1 := hN.out
        have h2 := sum_mem_le boxN 6571133076 (m.boxes.take i) (fun b hb => by
          obtain ⟨j, hj, rfl⟩ := List.mem_iff_getElem.1 hb
          rw [List.length_take] at hj
          rw [List.getElem_take]
          exact boxN_le _ (h500.out j _ (by omega) (List.getElem?_eq_getElem (by omega))))
        have h3 : (m.boxes.take i).length ≤ 50 := by rw [List.length_take]; omega
        have h4 := Nat.mul_le_mul_right 6571133076 h3
        omega
      have c0 := hcells 0 _ rfl
      have c4 := hcells 4 _ rfl
      obtain ⟨x, hx⟩ : ∃ x, bs[i] = x := ⟨_, rfl⟩
      rw [hx] at c0 c4 hLts h5s hsum
      obtain ⟨nm, va, nx, hg, rows, xa, xc⟩ := x
      replace c0 : wr.cell? ⟨b, bo + i * 5, none⟩ = some (.string nm) := c0
      replace c4 : wr.cell? ⟨b, bo + i * 5 + 4, none⟩ = some (.slice xa rows.length xc) := c4
      replace hLts := Lib.hid hLts
      have hi0 : (0 : Int) ≤ (i : Int) := by omega
      have hi1 : (i : Int) < (bs.length : Int) := by omega
      clear hib1 hcells hmx hx
      by_cases h5 : 500 < rows.length
      · have h5' : (500 : Int) < (rows.length : Int) := by omega
        have hr := Lib.hid (light_off (l := l.map (·.1)) h5s.out (by show 500 < (rows.map LtV.x).length; rw [List.length_map]; exact h5))
        have hbF := Lib.hid hbW
        clear h5 hbW hN h500 hsum hLts h5s hb
        go_wp2_with fail
        go_ret
        exact ⟨ret_bool hr.out.symm, by first | exact hbF | (rw [← hMB]; exact hbF)⟩
      · have h5' : decide ((500 : Int) < (rows.length : Int)) = false := decide_eq_false (by omega)
        have h5b : rows.length ≤ 500 := by omega
        have hfl := fewN_le nm.size
        clear h5
        go_wp2_with fail
        go_quiet ((go_at_call 31; exact Calls.quiet_of_same (few_q nm.size _)))
        go_wp2_with fail
        have hbQ : Hid (Below Wa.heap.size Wa (wr.drewN nq)) := Lib.hid (below_drewN hb.out nq)
        have hbR0 : Hid (Below wr.heap.size wr (wr.drewN nq)) := Lib.hid (below_drewN (Below.refl _ _) nq)
        generalize wr.drewN nq = wq at hbQ hbR0 ⊢
        generalize wr = wo at *
        go_loopw [5, 7] (fun v5 v7 wk => ∃ k N2 : Nat, v7 = .int .i64 k ∧ v5 = .int .i64 N2 ∧ k ≤ rows.length ∧ Hid (N2 = N + rows.length + fewN nm.size + (((rows.map LtV.x).take k).map letN).sum) ∧ Hid (Below Wa.heap.size Wa wk) ∧ Hid (Below wo.heap.size wo wk)) (fun _ v7 _ => rows.length - (intOf v7).toNat)
        case atStart => exact ⟨0, N + rows.length + fewN nm.size, rfl, by go_num, Nat.zero_le _, Lib.hid (by simp), hbQ, hbR0⟩
        case round =>
          generalize wr = wk at *
          obtain ⟨k, N2, rfl, rfl, hk, hN2, hbA, hbR⟩ := hrel
          have q0' := hmb0.out wk hbA.out
          have c4' := (hbR.out.cell (p := ⟨b, bo + i * 5 + 4, none⟩) hblt).trans c4
          have hN2b : N2 ≤ 200 + 50 * 6571133076 + 500 + 1048576 + 500 * 13140168 := by
            have h1 := hN2.out
            have h2 := sum_take_le letN 13140168 500 (rows.map LtV.x) k (by omega) (fun y _ => letN_le y)
            omega
          by_cases hkl : k < rows.length
          · obtain ⟨b2, bo2, cap2, hv, -, hb2lt, hcells2⟩ := ltT.rd_cells (Rd.below hLts.out.1 hbR.out) hkl
            injection hv with hv1 hv2 hv3
            subst hv1 hv3
            have hflg : FlIn wk _ _ := Rd.below (hLts.out.2 _ (List.getElem_mem hkl)) hbR.out
            have hsum2 : (((rows.map LtV.x).take (k + 1)).map letN).sum = (((rows.map LtV.x).take k).map letN).sum + letN rows[k].x := by
              rw [sum_take letN (rows.map LtV.x) k (by rw [List.length_map]; exact hkl), List.getElem_map]
            have d1 := hcells2 1 _ rfl
            have d3 := hcells2 3 _ rfl
            obtain ⟨z, hz⟩ : ∃ z, rows[k] = z := ⟨_, rfl⟩
            rw [hz] at hflg hsum2 d1 d3
            replace d1 : wk.cell? ⟨b2, bo2 + k * 5 + 1, none⟩ = some (.slice z.a z.x.flags.length z.c) := d1
            replace d3 : wk.cell? ⟨b2, bo2 + k * 5 + 3, none⟩ = some (.string z.x.hash) := d3
            have hfw := fewN_le z.x.hash.size
            have htx := textsN_le z.x.flags
            have hN3 : Hid (N2 + textsN z.x.flags + fewN z.x.hash.size / 32 = N + rows.length + fewN nm.size + (((rows.map LtV.x).take (k + 1)).map letN).sum) := Lib.hid (by
              rw [hsum2, hN2.out]
              unfold letN
              omega)
            have hk0 : (0 : Int) ≤ (k : Int) := by omega
            have hk1 : (k : Int) < (rows.length : Int) := by omega
            replace hflg := Lib.hid hflg
            replace c4' : wk.cell? ⟨b, bo + i * 5 + 4, none⟩ = some (.slice (some ⟨b2, bo2, none⟩) rows.length xc) := c4'
            have htq : Hid (∀ n, Calls Tryz.prog 32 #[.slice z.a z.x.flags.length z.c] (wk.drewN n) fun e w'' => e = .returned (.int .i64 (textsN z.x.flags)) ∧ w'' = wk.drewN n) := Lib.hid (fun n => texts_q hflg.out n)
            clear hcells2 hsum2 hN2 hz c0 c4 q0
            generalize textsN z.x.flags = tx at *
            have hfq : Hid (∀ w, Calls Tryz.prog 31 #[.int .i64 z.x.hash.size] w fun e w' => e = .returned (.int .i64 (fewN z.x.hash.size)) ∧ w' = w) := Lib.hid (fun w => few_q _ w)
            generalize fewN z.x.hash.size = fw at *
            go_wp2_with fail
            go_quiet (first | (go_at_call 31; exact Calls.quiet_of_same (hfq.out _)) | (go_at_call 32; exact Calls.quiet_of_same (htq.out _)))
            go_wp2_with fail
            go_roundw
            case rel => exact ⟨k + 1, N2 + tx + fw / 32, by go_num, by congr 1, by omega, hN3, Lib.hid (below_drewN hbA.out nq), Lib.hid (below_drewN hbR.out nq)⟩
            case measure => simp [intOf] <;> omega
          · have hk1 : (rows.length : Int) ≤ (k : Int) := by omega
            have hk2 : ¬ ((k : Int) < (rows.length : Int)) := by omega
            have hNF : Hid (N2 = bs.length + m.seats.length + m.homes.length + ((m.boxes.take (i + 1)).map boxN).sum) := Lib.hid (by
              have hke : k = (rows.map LtV.x).length := by rw [List.length_map]; omega
              have h1 := hN2.out
              rw [hke, List.take_length] at h1
              rw [hsum.out, h1, hN.out]
              unfold boxN BxV.b
              dsimp only
              rw [List.length_map]
              omega)
            have h5F : Hid (∀ j b, j < i + 1 → m.boxes[j]? = some b → b.letters.length ≤ 500) := Lib.hid (fun j bb hj hbb => by
              by_cases e : j = i
              · subst e
                rw [h5s.out] at hbb
                injection hbb with hbb
                subst hbb
                show (rows.map LtV.x).length ≤ 500
                rw [List.length_map]; exact h5b
              · exact h500.out j bb (by omega) hbb)
            clear hN hN2 hsum h500 h5s c0 c4 q0 hLts
            go_wp2_with fail
            go_roundw
            case rel => exact ⟨i + 1, N2, by go_num, rfl, by omega, hNF, h5F, hbA⟩
            case measure => simp [intOf] <;> omega
    · have hi1 : (bs.length : Int) ≤ (i : Int) := by omega
      have hi2 : ¬ ((i : Int) < (bs.length : Int)) := by omega
      have q0 := hmb0.out wr hb.out
      have hall : Hid (∀ b ∈ m.boxes, b.letters.length ≤ 500) := Lib.hid (fun b hb2 => by
        obtain ⟨j, hj, rfl⟩ := List.mem_iff_getElem.1 hb2
        exact h500.out j _ (by have := hlb.out; omega) (List.getElem?_eq_getElem hj))
      have hNA : Hid (N = bs.length + m.seats.length + m.homes.length + (m.boxes.map boxN).sum) := Lib.hid (by
        rw [hN.out, show i = m.boxes.length from by have := hlb.out; omega, List.take_length])
      have hNb : N ≤ 200 + 50 * 6571133076 := by
        have h1 := hNA.out
        have h2 := sum_mem_le boxN 6571133076 m.boxes (fun b hb => boxN_le _ (hall.out b hb))
        have h3 : m.boxes.length ≤ 50 := by have := hlb.out; omega
        have h4 := Nat.mul_le_mul_right 6571133076 h3
        omega
      clear hN h500
      go_wp2_with fail
      generalize wr = wo at *
      go_loopw [5, 8] (fun v5 v8 wr => ∃ j N2 : Nat, v8 = .int .i64 j ∧ v5 = .int .i64 N2 ∧ j ≤ l.length ∧ Hid (N2 = N + (((l.map (·.1)).take j).map reqN).sum) ∧ Hid (∀ k q, k < j → (l.map (·.1))[k]? = some q → q.uids.length ≤ 1000) ∧ Hid (Below Wa.heap.size Wa wr)) (fun _ v8 _ => l.length - (intOf v8).toNat)
      case atStart => exact ⟨0, N, rfl, rfl, Nat.zero_le _, Lib.hid (by simp), Lib.hid (fun k q hk => by omega), hb⟩
      case round =>
        obtain ⟨j, N2, rfl, rfl, hj, hN2, h1000, hbA⟩ := hrel
        have hbW2 : Below W.heap.size W wr := hz1b.out.trans (hbA.out.mono hz1b.out.size)
        clear q0
        by_cases hlt : j < l.length
        · have hl1 := hl0.out wr hbW2
          obtain ⟨b, bo, cap, hv, -, hblt, hcells⟩ := rqT.rd_cells hl1.1 hlt
          injection hv with hv1 hv2 hv3
          subst hv1 hv3
          have hqi := hl1.2 _ (List.getElem_mem hlt)
          have hjm : j < (l.map (·.1)).length := by rw [List.length_map]; exact hlt
          have hmq : (l.map (·.1))[j]? = some l[j].1 := by rw [List.getElem?_map, List.getElem?_eq_getElem hlt]; rfl
          have hsum : (((l.map (·.1)).take (j + 1)).map reqN).sum = (((l.map (·.1)).take j).map reqN).sum + reqN l[j].1 := by
            rw [sum_take reqN (l.map (·.1)) j hjm, List.getElem_map]
          have hN2b : N2 ≤ 200 + 50 * 6571133076 + 200 * 15238324 := by
            have h1 := hN2.out
            have h2 := sum_mem_le reqN 15238324 ((l.map (·.1)).take j) (fun q hq => by
              obtain ⟨k, hk, rfl⟩ := List.mem_iff_getElem.1 hq
              rw [List.length_take] at hk
              rw [List.getElem_take]
              exact reqN_le _ (h1000.out k _ (by omega) (List.getElem?_eq_getElem (by omega))))
            have h3 : ((l.map (·.1)).take j).length ≤ 200 := by rw [List.length_take]; omega
            have h4 := Nat.mul_le_mul_right 15238324 h3
            omega
          obtain ⟨p, hp⟩ : ∃ p, l[j] = p := ⟨_, rfl⟩
          rw [hp] at hcells hqi hmq hsum
          obtain ⟨q, y⟩ := p
          dsimp only at hqi hmq hsum
          have d6 : wr.cell? ⟨b, bo + (j * 17 + 6), none⟩ = some (.string q.box) := hcells 6 _ rfl
          have d7 : wr.cell? ⟨b, bo + (j * 17 + 7), none⟩ = some (.string q.to_) := hcells 7 _ rfl
          have d9 : wr.cell? ⟨b, bo + (j * 17 + 9), none⟩ = some (.slice y.au q.uids.length y.cu) := hcells 9 _ rfl
          have d10 : wr.cell? ⟨b, bo + (j * 17 + 10), none⟩ = some (.slice y.af q.flags.length y.cf) := hcells 10 _ rfl
          have d14 : wr.cell? ⟨b, bo + (j * 17 + 14), none⟩ = some (.string q.hash) := hcells 14 _ rfl
          rw [← Nat.add_assoc] at d6 d7 d9 d10 d14
          have hj0 : (0 : Int) ≤ (j : Int) := by omega
          have hj1 : (j : Int) < (l.length : Int) := by omega
          have htq : Hid (∀ n, Calls Tryz.prog 32 #[.slice y.af q.flags.length y.cf] (wr.drewN n) fun e w'' => e = .returned (.int .i64 (textsN q.flags)) ∧ w'' = wr.drewN n) := Lib.hid (fun n => texts_q hqi.2 n)
          clear hcells hqi hl1 hjm hp
          by_cases hu : 1000 < q.uids.length
          · have hu' : (1000 : Int) < (q.uids.length : Int) := by omega
            have hr := Lib.hid (light_no (m := m) (l := l.map (·.1)) (fun _ _ _ _ _ h6 => absurd (h6 q (List.mem_of_getElem? hmq)) (by omega)))
            have hbF := Lib.hid hbW2
            clear hu hbW2 hN2 h1000 hsum htq hbA hmq
            go_wp2_with fail
            go_ret
            exact ⟨ret_bool hr.out.symm, by first | exact hbF | (rw [← hMB]; exact hbF)⟩
          · have hu' : decide ((1000 : Int) < (q.uids.length : Int)) = false := decide_eq_false (by omega)
            have hu2 : q.uids.length ≤ 1000 := by omega
            have hN3 : Hid (N2 + 4 + q.uids.length + textsN q.flags + fewN q.box.size + fewN q.to_.size + fewN q.hash.size / 32 = N + (((l.map (·.1)).take (j + 1)).map reqN).sum) := Lib.hid (by
              rw [hsum, hN2.out]
              unfold reqN
              omega)
            have h1F : Hid (∀ k q', k < j + 1 → (l.map (·.1))[k]? = some q' → q'.uids.length ≤ 1000) := Lib.hid (fun k q' hk hq' => by
              by_cases e : k = j
              · subst e
                rw [hmq] at hq'
                injection hq' with hq'
                subst hq'
                exact hu2
              · exact h1000.out k q' (by omega) hq')
            have htx := textsN_le q.flags
            have f1 := fewN_le q.box.size
            have f2 := fewN_le q.to_.size
            have f3 := fewN_le q.hash.size
            have g1 : Hid (∀ w, Calls Tryz.prog 31 #[.int .i64 q.box.size] w fun e w' => e = .returned (.int .i64 (fewN q.box.size)) ∧ w' = w) := Lib.hid (fun w => few_q _ w)
            have g2 : Hid (∀ w, Calls Tryz.prog 31 #[.int .i64 q.to_.size] w fun e w' => e = .returned (.int .i64 (fewN q.to_.size)) ∧ w' = w) := Lib.hid (fun w => few_q _ w)
            have g3 : Hid (∀ w, Calls Tryz.prog 31 #[.int .i64 q.hash.size] w fun e w' => e = .returned (.int .i64 (fewN q.hash.size)) ∧ w' = w) := Lib.hid (fun w => few_q _ w)
            clear hu hN2 h1000 hsum hmq hbW2
            generalize textsN q.flags = tx at *
            generalize fewN q.box.size = fb at *
            generalize fewN q.to_.size = ft at *
            generalize fewN q.hash.size = fh at *
            go_wp2_with fail
            go_quiet (first | (go_at_call 31; first | exact Calls.quiet_of_same (g1.out _) | exact Calls.quiet_of_same (g2.out _) | exact Calls.quiet_of_same (g3.out _)) | (go_at_call 32; exact Calls.quiet_of_same (htq.out _)))
            go_wp2_with fail
            go_roundw
            case rel => exact ⟨j + 1, N2 + 4 + q.uids.length + tx + fb + ft + fh / 32, by go_num, by congr 1, by omega, hN3, h1F, Lib.hid (below_drewN hbA.out nq)⟩
            case measure => simp [intOf] <;> omega
        · have hj1 : (l.length : Int) ≤ (j : Int) := by omega
          have hj2 : ¬ ((j : Int) < (l.length : Int)) := by omega
          have hR : Hid (lightB m (l.map (·.1)) = decide ((N2 : Int) < 9000)) := Lib.hid (by
            have hje : j = (l.map (·.1)).length := by rw [List.length_map]; omega
            have h1 := hN2.out
            rw [hje, List.take_length] at h1
            rw [light_yes (by have := hlb.out; omega) e2 e3 (by rw [List.length_map]; exact e4) hall.out (fun q hq => by
              obtain ⟨k, hk, rfl⟩ := List.mem_iff_getElem.1 hq
              exact h1000.out k _ (by omega) (List.getElem?_eq_getElem hk)), decide_eq_decide]
            have h2 := hNA.out
            have h3 := hlb.out
            omega)
          have hbF := Lib.hid hbW2
          clear hN2 h1000 hbW2 hNA hall hNb
          go_wp2_with fail
          go_ret
          exact ⟨ret_bool hR.out.symm, by first | exact hbF | (rw [← hMB]; exact hbF)⟩
end Go.Proofs.YtdobbfjmlnlieaaGreat
namespace Go.Proofs.YtdobbfjmlnlieaaGreat
set_option linter.unusedSimpArgs false
open Go.RowKit

/-- a yes or a no, whether P -/
def YesNo (P : Prop) (W : World) (e : Ending) (w' : World) : Prop := ∃ B, e = .returned (.bool B) ∧ Hid (B = true ↔ P) ∧ Hid (Below W.heap.size W w')
structure LetP (x : Lt) (b : Bx) : Prop where
  u1 : 0 < x.uid
  u2 : x.uid < b.next
  fl : rightB x.flags = true
  m1 : 0 < x.mod
  m2 : x.mod ≤ b.high
  hs : x.hash.size = 32
  sz : x.size ≤ 4096
structure BoxP (b : Bx) (next : Nat) : Prop where
  ok : boxOk b.name.data.toList = true
  nm : boxL b.name.data.toList = b.name.data.toList
  v1 : 1 ≤ b.validity
  v2 : b.validity < next
  n1 : 1 ≤ b.next
  n2 : b.next ≤ 4294967296
  h1 : 1 ≤ b.high
  h2 : b.high ≤ 9223372036854775807
  len : b.letters.length ≤ 32
  lets : ∀ x ∈ b.letters, LetP x b
  up : b.letters.Pairwise (fun x y => x.uid < y.uid)
structure HomeP (h : Hm) : Prop where
  n1 : 1 ≤ h.node
  n2 : h.node ≤ 5
  l : h.life ≠ 0
  t : h.try_ ≠ 0
structure SeatP (m : Ml) (x : St) : Prop where
  s1 : 1 ≤ x.session
  s2 : x.session < m.ns
  t1 : 1 ≤ x.try_
  home : ∃ h ∈ m.homes, h.node = x.node ∧ h.life = x.life ∧ x.try_ ≤ h.try_
structure SeatsP (m : Ml) : Prop where
  homes : ∀ h ∈ m.homes, HomeP h
  hup : m.homes.Pairwise (fun x y => x.node < y.node)
  seats : ∀ x ∈ m.seats, SeatP m x
  sup : m.seats.Pairwise (fun x y => x.session < y.session)
  twin : m.seats.Pairwise (fun x y => ¬ (x.node = y.node ∧ x.try_ = y.try_))
structure RightP (m : Ml) : Prop where
  lb : m.boxes.length ≤ 8
  nv : m.nv ≤ 4294967296
  ns1 : 1 ≤ m.ns
  ns2 : m.ns ≤ 4611686018427387904
  sw : m.sweeps ≤ 9223372036854775807
  ls : m.seats.length ≤ 16
  boxes : ∀ b ∈ m.boxes, BoxP b m.nv
  names : m.boxes.Pairwise (fun x y => bxltB x y = true)
  vals : m.boxes.Pairwise (fun x y => x.validity ≠ y.validity)
  inbox : ∃ b ∈ m.boxes, b.name.data.toList = inboxL
  seated : SeatsP m
theorem short_nodes : ∀ (l : List Hm) (k : Int), (∀ h ∈ l, k < h.node ∧ h.node ≤ 5) → l.Pairwise (fun x y => x.node < y.node) → (l.length : Int) ≤ max 0 (5 - k)
  | [], k, _, _ => by simp; omega
  | h :: r, k, h1, h2 => by
    have h2' := List.pairwise_cons.1 h2
    have hh := h1 h (by simp)
    have := short_nodes r h.node (fun x hx => ⟨h2'.1 x hx, (h1 x (by simp [hx])).2⟩) h2'.2
    simp only [List.length_cons]
    omega
theorem RightP.homes5 {m : Ml} (h : RightP m) : m.homes.length ≤ 5 := by
  have := short_nodes m.homes 0 (fun x hx => ⟨by have := (h.seated.homes x hx).n1; omega, (h.seated.homes x hx).n2⟩) h.seated.hup
  omega
theorem right_sized {l : List (List UInt8)} (h : rightB l = true) : Sized l := short_of (right_short h)
theorem RightP.sized {m : Ml} (h : RightP m) : Sized1 m := ⟨by have := h.lb; omega, by have := h.homes5; omega, by have := h.ls; omega, fun b hb => by have := (h.boxes b hb).len; omega, fun b hb x hx => by have := right_16 ((h.boxes b hb).lets x hx).fl; omega⟩
theorem RightP.ap {m : Ml} (h : RightP m) : ApSt m where
  sz := h.sized
  nb := by have := h.lb; omega
  nh := by have := h.homes5; omega
  hm := ⟨h.seated.hup, fun x hx => by have := (h.seated.homes x hx).n1; have := (h.seated.homes x hx).n2; omega⟩
  nx := fun b hb => (h.boxes b hb).n2
  hi := fun b hb => (h.boxes b hb).h2
  fs := fun b hb x hx => right_sized ((h.boxes b hb).lets x hx).fl
  so := h.names
  sw := h.sw
/-- a list whose numbers rise so far -/
def UpTo (l : List Lt) (b : Bx) (j : Nat) (last : Nat) : Prop := (∀ x ∈ l.take j, LetP x b) ∧ (l.take j).Pairwise (fun x y => x.uid < y.uid) ∧ ∀ x ∈ l.take j, x.uid ≤ last
theorem UpTo.zero (l : List Lt) (b : Bx) : UpTo l b 0 0 := ⟨fun x hx => by simp at hx, by simp, fun x hx => by simp at hx⟩
theorem UpTo.step {l : List Lt} {b : Bx} {j last : Nat} (h : UpTo l b j last) (hj : j < l.length) (hp : LetP l[j] b) (hl : last < l[j].uid) : UpTo l b (j + 1) l[j].uid := by
  unfold UpTo
  rw [List.take_succ_eq_append_getElem hj]
  refine ⟨fun x hx => ?_, ?_, fun x hx => ?_⟩
  · rcases List.mem_append.1 hx with hx | hx
    · exact h.1 x hx
    · rw [List.mem_singleton.1 hx]; exact hp
  · refine List.pairwise_append.2 ⟨h.2.1, by simp, fun x hx y hy => ?_⟩
    rw [List.mem_singleton.1 hy]
    have := h.2.2 x hx
    omega
  · rcases List.mem_append.1 hx with hx | hx
    · have := h.2.2 x hx; omega
    · rw [List.mem_singleton.1 hx]; exact Nat.le_refl _
theorem BoxP.last {b : Bx} {next : Nat} (h : BoxP b next) {j last : Nat} (hj : j < b.letters.length) (hl : j = 0 ∧ last = 0 ∨ ∃ k, k < j ∧ b.letters[k]?.map Lt.uid = some last) : last < b.letters[j].uid := by
  rcases hl with ⟨rfl, rfl⟩ | ⟨k, hk, e⟩
  · exact (h.lets _ (List.getElem_mem hj)).u1
  · rw [List.getElem?_eq_getElem (by omega)] at e
    have := List.pairwise_iff_getElem.1 h.up k j (by omega) hj hk
    have := Option.some.inj e
    omega
end Go.Proofs.YtdobbfjmlnlieaaGreat
