/- Opening arguments that are slices, by what they read as; the bulk of what is read. Opening states and requests: what the form says of a parameter, as the walks ask it. (written by tools/gen_MnO.py) Opening views, mailboxes, ranges and numbers: what the form says of a parameter, as the walks ask it. ViewSets as its card calls it. -/
import Derived.Test.YtcnebfmlelcliaaRows
import Derived.Test.YtcnebfmlelcliaaB01
import Derived.WalkKit
import Derived.ProofKit
import Derived.SliceStrings
import Derived.OpenShut
import Derived.Test.YtcnebfmlelcliaaB05
import Derived.Test.YtcnebfmlelcliaaOpen
import Derived.SizedLaws
import Derived.Deep.Slices
import Derived.Test.YtcnebfmlelcliaaB09
import Derived.Test.YtcnebfmlelcliaaB19
namespace Go.Proofs.Ytcnebfmlelcliaa
open Go.ChangeShapes Go.WideShapes Go.ChangeAt Go.RowKit

theorem bulk_strs {H : Type} : ∀ ss : List ByteArray, Rows.uptoBulkAll (strs (H := H) ss) = (catB ss).length + ss.length
  | [] => rfl
  | s :: r => by
    have := bulk_strs (H := H) r
    simp only [strs, List.map_cons, Rows.uptoBulkAll, Rows.uptoBulk, catB, List.flatMap_cons, List.length_append, List.length_cons] at this ⊢
    omega
theorem cell_spot {w : World} {a : Addr} {v : Value} (h : w.cell? a = some v) : a.spot = none ∧ a.block < w.heap.size := by
  unfold World.cell? at h
  split at h
  · rename_i heq
    refine ⟨?_, (Array.getElem?_eq_some_iff.1 heq).1⟩
    cases hs : a.spot with
    | none => rfl
    | some x => simp [hs] at h
  · cases h
/-- a slice of texts -/
theorem open_texts {H : Type} {enc : TypeId × Value → H} {P : Program} {w : World} {r : Reach} {b base : Nat} {spare : Nat → Bool} {held : Bool} {t e : TypeId} {v : Value} {d : DataW H} {p : List MemPlace}
    (ht : P.underlying t = some (.slice e)) (he : P.underlying e = some .string) (hce : P.cellsOf e = 1)
    (hv : Value.okWide P w r b t v) (h : DataW.Trod enc P w base spare held t v d p) :
    ∃ ss : List ByteArray, Rd w v ss.length (strCells ss) ∧ (catB ss).length + ss.length ≤ Rows.uptoBulk d := by
  obtain ⟨a0, len, cap, rfl⟩ := okWide_slice ht hv
  obtain ⟨fuel, hf⟩ := h
  rcases open_strings ht he hce hf with ⟨hcs, hx⟩ | ⟨a, len', cap', ss, hcs, _, hl, hm, hz, hx, hcell, hsz⟩
  · have : a0 = none ∧ len = 0 ∧ cap = 0 := by simpa [Value.cells] using hcs
    obtain ⟨rfl, rfl, rfl⟩ := this
    exact ⟨[], ⟨none, 0, rfl, .inl rfl⟩, by simp [catB]⟩
  · have : a0 = some a ∧ len = len' ∧ cap = cap' := by simpa [Value.cells] using hcs
    obtain ⟨rfl, rfl, rfl⟩ := this
    have hle : len ≤ ss.length := by rw [hz]; split <;> omega
    have hll : (ss.take len).length = len := by rw [List.length_take]; omega
    refine ⟨ss.take len, ⟨some a, cap, by rw [hll], ?_⟩, ?_⟩
    · rcases Nat.eq_zero_or_pos len with h0 | h0
      · exact .inl (by rw [hll]; exact h0)
      · right
        obtain ⟨hs, hb⟩ := cell_spot (hcell 0 (by omega))
        have e0 : a.add 0 = a := rfl
        rw [e0] at hs hb
        refine ⟨a.block, a.off, by cases a; simp at hs; subst hs; rfl, hb, by rw [hll]; exact hl, fun i u hu => ?_⟩
        have hi : i < len := by
          have := (List.getElem?_eq_some_iff.1 hu).1
          simp [strCells] at this; omega
        have hc := hcell i (by omega)
        have ha : a.add i = ⟨a.block, a.off + i, none⟩ := by
          cases a with
          | mk x y z => simp at hs; subst hs; exact Addr.add_lit ..
        rw [ha] at hc
        rw [hc]
        have hget : (strCells (ss.take len))[i]? = some (.string (ss.getD i ByteArray.empty)) := by
          simp [strCells, hi, List.getD, List.getElem?_eq_getElem (show i < ss.length by omega)]
        rw [hget] at hu
        exact hu
    · simp only [Prod.mk.injEq] at hx
      rw [hx.1]
      simp only [Rows.uptoBulk]
      rw [bulk_strs, hll]
      omega
end Go.Proofs.Ytcnebfmlelcliaa
namespace Go.Proofs.Ytcnebfmlelcliaa
set_option linter.unusedSimpArgs false
open Go.ChangeShapes Go.WideShapes Go.ChangeAt Go.RowKit Go.Deep

theorem add_spotless {a : Addr} (hs : a.spot = none) (i : Nat) : a.add i = ⟨a.block, a.off + i, none⟩ := by
  cases a with
  | mk x y z => simp at hs; subst hs; exact Addr.add_lit ..
theorem add_adds (a : Addr) (hs : a.spot = none) (i j : Nat) : (a.add i).add j = ⟨a.block, a.off + i + j, none⟩ := by
  rw [add_spotless hs]; exact Addr.add_lit ..
theorem nat_u64 {n : Int} (h : (Lit.int .u64 n).wf = true) : ∃ k : Nat, n = (k : Int) := by
  have := bounds_u64 h
  exact ⟨n.toNat, by omega⟩
section
variable {H : Type} {enc : TypeId × Value → H} {w : World} {base : Nat} {spare : Nat → Bool} {held : Bool}
theorem trod_field {P : Program} {m : Nat} {fs : Array Field} {cs : List Value} {xs : List (DataW H × List MemPlace)}
    (h : ∀ (i : Nat) (f : Field), fs[i]? = some f → DataW.trod enc P w base spare held m f.type ((cs.drop f.offset).take (P.cellsOf f.type)) = xs[i]?) (i : Nat) {f : Field} {t o n : Nat} {cs' : List Value} {x : DataW H × List MemPlace}
    (hf : fs[i]? = some f) (ht : f.type = t) (ho : f.offset = o) (hc : P.cellsOf t = n) (hcs : (cs.drop o).take n = cs') (hx : xs[i]? = some x) : DataW.trod enc P w base spare held m t cs' = some x := by
  subst ht ho hc hcs
  rw [h i f hf, hx]
theorem open_u64 {cs : List Value} {y : DataW H × List MemPlace} {fuel : Nat} (h : DataW.trod enc Try.prog w base spare held fuel 22 cs = some y) : ∃ n : Nat, cs = [.int .u64 n] := by
  obtain ⟨n, hcs, _, hw⟩ := DataW.trod_int Try.underlying22 h
  obtain ⟨k, rfl⟩ := nat_u64 hw
  exact ⟨k, hcs⟩
theorem open_int {cs : List Value} {y : DataW H × List MemPlace} {fuel : Nat} (h : DataW.trod enc Try.prog w base spare held fuel 3 cs = some y) : ∃ n : Int, cs = [.int .i64 n] := by
  obtain ⟨n, hcs, _, _⟩ := DataW.trod_int Try.underlying3 h
  exact ⟨n, hcs⟩
theorem open_bool {cs : List Value} {y : DataW H × List MemPlace} {fuel : Nat} (h : DataW.trod enc Try.prog w base spare held fuel 4 cs = some y) : ∃ n : Bool, cs = [.bool n] := by
  obtain ⟨n, hcs, _⟩ := DataW.trod_bool Try.underlying4 h
  exact ⟨n, hcs⟩
theorem open_str {cs : List Value} {y : DataW H × List MemPlace} {fuel : Nat} (h : DataW.trod enc Try.prog w base spare held fuel 9 cs = some y) : ∃ n : ByteArray, cs = [.string n] := by
  obtain ⟨n, hcs, _, _⟩ := DataW.trod_string Try.underlying9 h
  exact ⟨n, hcs⟩
/-- a slice of texts as a part -/
theorem open_flagsP {cs : List Value} {y : DataW H × List MemPlace} {fuel : Nat} (h : DataW.trod enc Try.prog w base spare held fuel 58 cs = some y) :
    ∃ (a : Option Addr) (l : List (List UInt8)) (cap : Nat), cs = [.slice a l.length cap] ∧ FlIn w (.slice a l.length cap) l := by
  rcases open_strings Try.underlying58 Try.underlying9 (by kernel_rfl) h with ⟨hcs, hx⟩ | ⟨a, len, cap, ss, hcs, _, hl, hm, hz, hx, hcell, hsz⟩
  · exact ⟨none, [], 0, hcs, none, 0, rfl, .inl rfl⟩
  · have hle : len ≤ ss.length := by rw [hz]; split <;> omega
    have hll : ((ss.take len).map (·.data.toList)).length = len := by rw [List.length_map, List.length_take]; omega
    refine ⟨some a, (ss.take len).map (·.data.toList), cap, by rw [hll]; exact hcs, some a, cap, rfl, ?_⟩
    rcases Nat.eq_zero_or_pos len with h0 | h0
    · exact .inl (by rw [hll]; exact h0)
    · right
      obtain ⟨hs, hb⟩ := cell_spot (hcell 0 (by omega))
      have e0 : a.add 0 = a := rfl
      rw [e0] at hs hb
      refine ⟨a.block, a.off, by cases a; simp at hs; subst hs; rfl, hb, by rw [hll]; exact hl, fun i u hu => ?_⟩
      have hi : i < len := by
        have := (List.getElem?_eq_some_iff.1 hu).1
        rw [List.length_map, hll] at this
        exact this
      have hc := hcell i (by omega)
      rw [add_spotless hs] at hc
      rw [hc]
      have hget : (((ss.take len).map (·.data.toList)).map Go.Proofs.encStr)[i]? = some (.string (ss.getD i ByteArray.empty)) := by
        rw [List.getElem?_map, List.getElem?_map, List.getElem?_take_of_lt hi, List.getElem?_eq_getElem (by omega)]
        simp [List.getD, List.getElem?_eq_getElem (show i < ss.length by omega), Go.Proofs.encStr]
      rw [hget] at hu
      exact hu
/-- a slice of structs as a part -/
theorem open_row {α : Type} [Inhabited α] (R : RT α) {Q : α → Prop} (hc : Try.prog.cellsOf R.t = R.K)
    (elem : ∀ {fuel : Nat} {cs : List Value} {y : DataW H × List MemPlace}, cs.length = R.K → DataW.trod enc Try.prog w base spare held fuel R.t cs = some y → ∃ x, cs = R.enc x ∧ Q x)
    {cs : List Value} {y : DataW H × List MemPlace} {fuel : Nat} (h : DataW.trod enc Try.prog w base spare held fuel R.ts cs = some y) :
    ∃ (a : Option Addr) (l : List α) (cap : Nat), cs = [.slice a l.length cap] ∧ Rd w (.slice a l.length cap) l.length (R.cells l) ∧ ∀ x ∈ l, Q x := by
  rcases open_slice R.und h with ⟨hcs, _⟩ | ⟨a, len, cap, m, n, D, Pl, hcs, _, hl, hm, hmm, _, hall⟩
  · exact ⟨none, [], 0, hcs, ⟨none, 0, rfl, .inl rfl⟩, fun x hx => by cases hx⟩
  · have hlm : len ≤ m := by rw [hmm]; split <;> omega
    rw [hc] at hall
    obtain ⟨q, hq⟩ := choose_lt (α := α) (n := len) (p := fun i x => (∀ j, j < R.K → w.cell? ((a.add (i * R.K)).add j) = (R.enc x)[j]?) ∧ Q x) (fun i hi => by
      obtain ⟨cs', hc', ht⟩ := hall i (by omega)
      obtain ⟨_, hcl, hat⟩ := World.cells?_some hc'
      obtain ⟨x, rfl, hx⟩ := elem hcl ht
      exact ⟨x, hat, hx⟩)
    have hlen : ((List.range len).map q).length = len := by simp
    refine ⟨some a, (List.range len).map q, cap, by rw [hlen]; exact hcs, ⟨some a, cap, rfl, ?_⟩, fun x hx => ?_⟩
    · rcases Nat.eq_zero_or_pos len with hz | hz
      · exact .inl (by rw [hlen]; exact hz)
      · right
        have hpos := R.pos
        have c0 := (hq 0 (by omega)).1 0 hpos
        have e0 : (a.add (0 * R.K)).add 0 = a := by rw [Nat.zero_mul]; rfl
        rw [e0, List.getElem?_eq_getElem (by rw [R.len]; exact hpos)] at c0
        obtain ⟨hsp, hbl⟩ := cell_spot c0
        refine ⟨a.block, a.off, by cases a; simp at hsp; subst hsp; rfl, hbl, by rw [hlen]; exact hl, fun i u hu => ?_⟩
        have hi := (List.getElem?_eq_some_iff.1 hu).1
        rw [R.cells_len, hlen] at hi
        have hd : i / R.K < len := Nat.div_lt_of_lt_mul (by rw [Nat.mul_comm]; exact hi)
        have hr : i % R.K < R.K := Nat.mod_lt _ hpos
        have hsplit : i / R.K * R.K + i % R.K = i := by rw [Nat.mul_comm]; exact Nat.div_add_mod i R.K
        have g := (hq (i / R.K) hd).1 (i % R.K) hr
        rw [add_adds a hsp, Nat.add_assoc, hsplit] at g
        rw [g]
        have hg := R.cells_get ((List.range len).map q) (i / R.K) (by rw [hlen]; exact hd) (i % R.K) hr
        rw [hsplit, hu, List.getElem_map, List.getElem_range] at hg
        exact hg.symm
    · obtain ⟨i, hi, rfl⟩ := List.mem_map.1 hx
      exact (hq i (List.mem_range.1 hi)).2
theorem c_u64 : Try.prog.cellsOf 22 = 1 := by kernel_rfl
theorem c_int : Try.prog.cellsOf 3 = 1 := by kernel_rfl
theorem c_bool : Try.prog.cellsOf 4 = 1 := by kernel_rfl
theorem c_str : Try.prog.cellsOf 9 = 1 := by kernel_rfl
theorem c_strs : Try.prog.cellsOf 58 = 1 := by kernel_rfl
theorem c_lts : Try.prog.cellsOf 26 = 1 := by kernel_rfl
theorem c_bxs : Try.prog.cellsOf 43 = 1 := by kernel_rfl
theorem c_hms : Try.prog.cellsOf 44 = 1 := by kernel_rfl
theorem c_sts : Try.prog.cellsOf 45 = 1 := by kernel_rfl
theorem c_rgs : Try.prog.cellsOf 29 = 1 := by kernel_rfl
instance : Inhabited LtV := ⟨⟨⟨0, [], 0, ⟨#[]⟩, 0⟩, none, 0⟩⟩
instance : Inhabited BxV := ⟨⟨⟨#[]⟩, 0, 0, 0, [], none, 0⟩⟩
instance : Inhabited Hm := ⟨⟨0, 0, 0⟩⟩
instance : Inhabited St := ⟨⟨0, 0, 0, 0, 0⟩⟩
instance : Inhabited RqP := ⟨⟨0, 0, 0, 0, 0, 0, ⟨#[]⟩, ⟨#[]⟩, 0, [], [], 0, false, 0, ⟨#[]⟩, 0, 0⟩, ⟨none, 0, none, 0⟩⟩
set_option maxRecDepth 10000 in
set_option maxHeartbeats 4000000 in
theorem open_lt {cs : List Value} {y : DataW H × List MemPlace} {fuel : Nat} (hl : cs.length = 5) (h : DataW.trod enc Try.prog w base spare held fuel 66 cs = some y) : ∃ k : LtV, cs = ltT.enc k ∧ FlIn w k.v k.x.flags := by
  match cs, hl with
  | [c0, c1, c2, c3, c4], _ =>
    obtain ⟨xs, m, _, _, _, hx, hall⟩ := DataW.trod_struct Try.underlying66 h
    match xs, hx with
    | [x0, x1, x2, x3, x4], _ =>
      obtain ⟨uid, e0⟩ := open_u64 (trod_field hall 0 (o := 0) (cs' := [c0]) rfl rfl rfl c_u64 rfl rfl)
      obtain ⟨fa, fl, fc, e1, hf⟩ := open_flagsP (trod_field hall 1 (o := 1) (cs' := [c1]) rfl rfl rfl c_strs rfl rfl)
      obtain ⟨md, e2⟩ := open_u64 (trod_field hall 2 (o := 2) (cs' := [c2]) rfl rfl rfl c_u64 rfl rfl)
      obtain ⟨hs, e3⟩ := open_str (trod_field hall 3 (o := 3) (cs' := [c3]) rfl rfl rfl c_str rfl rfl)
      obtain ⟨sz, e4⟩ := open_u64 (trod_field hall 4 (o := 4) (cs' := [c4]) rfl rfl rfl c_u64 rfl rfl)
      simp only [List.cons.injEq, and_true] at e0 e1 e2 e3 e4
      subst e0 e1 e2 e3 e4
      exact ⟨⟨⟨uid, fl, md, hs, sz⟩, fa, fc⟩, rfl, hf⟩
set_option maxRecDepth 10000 in
set_option maxHeartbeats 4000000 in
theorem open_bx {cs : List Value} {y : DataW H × List MemPlace} {fuel : Nat} (hl : cs.length = 5) (h : DataW.trod enc Try.prog w base spare held fuel 28 cs = some y) : ∃ k : BxV, cs = bxT.enc k ∧ LtsIn w k.v k.rows := by
  match cs, hl with
  | [c0, c1, c2, c3, c4], _ =>
    obtain ⟨xs, m, _, _, _, hx, hall⟩ := DataW.trod_struct Try.underlying28 h
    match xs, hx with
    | [x0, x1, x2, x3, x4], _ =>
      obtain ⟨nm, e0⟩ := open_str (trod_field hall 0 (o := 0) (cs' := [c0]) rfl rfl rfl c_str rfl rfl)
      obtain ⟨va, e1⟩ := open_u64 (trod_field hall 1 (o := 1) (cs' := [c1]) rfl rfl rfl c_u64 rfl rfl)
      obtain ⟨nx, e2⟩ := open_u64 (trod_field hall 2 (o := 2) (cs' := [c2]) rfl rfl rfl c_u64 rfl rfl)
      obtain ⟨hg, e3⟩ := open_u64 (trod_field hall 3 (o := 3) (cs' := [c3]) rfl rfl rfl c_u64 rfl rfl)
      obtain ⟨la, ll, lc, e4, ⟨hr, hq⟩⟩ := open_row ltT (Q := fun k => FlIn w k.v k.x.flags) (by kernel_rfl) (fun hl ht => open_lt hl ht) (trod_field hall 4 (o := 4) (cs' := [c4]) rfl rfl rfl c_lts rfl rfl)
      simp only [List.cons.injEq, and_true] at e0 e1 e2 e3 e4
      subst e0 e1 e2 e3 e4
      exact ⟨⟨nm, va, nx, hg, ll, la, lc⟩, rfl, hr, hq⟩
set_option maxRecDepth 10000 in
set_option maxHeartbeats 4000000 in
theorem open_hm {cs : List Value} {y : DataW H × List MemPlace} {fuel : Nat} (hl : cs.length = 3) (h : DataW.trod enc Try.prog w base spare held fuel 106 cs = some y) : ∃ k : Hm, cs = hmT.enc k ∧ True := by
  match cs, hl with
  | [c0, c1, c2], _ =>
    obtain ⟨xs, m, _, _, _, hx, hall⟩ := DataW.trod_struct Try.underlying106 h
    match xs, hx with
    | [x0, x1, x2], _ =>
      obtain ⟨nd, e0⟩ := open_int (trod_field hall 0 (o := 0) (cs' := [c0]) rfl rfl rfl c_int rfl rfl)
      obtain ⟨li, e1⟩ := open_u64 (trod_field hall 1 (o := 1) (cs' := [c1]) rfl rfl rfl c_u64 rfl rfl)
      obtain ⟨tr, e2⟩ := open_u64 (trod_field hall 2 (o := 2) (cs' := [c2]) rfl rfl rfl c_u64 rfl rfl)
      simp only [List.cons.injEq, and_true] at e0 e1 e2
      subst e0 e1 e2
      exact ⟨⟨nd, li, tr⟩, rfl, trivial⟩
set_option maxRecDepth 10000 in
set_option maxHeartbeats 4000000 in
theorem open_st {cs : List Value} {y : DataW H × List MemPlace} {fuel : Nat} (hl : cs.length = 5) (h : DataW.trod enc Try.prog w base spare held fuel 108 cs = some y) : ∃ k : St, cs = stT.enc k ∧ True := by
  match cs, hl with
  | [c0, c1, c2, c3, c4], _ =>
    obtain ⟨xs, m, _, _, _, hx, hall⟩ := DataW.trod_struct Try.underlying108 h
    match xs, hx with
    | [x0, x1, x2, x3, x4], _ =>
      obtain ⟨se, e0⟩ := open_u64 (trod_field hall 0 (o := 0) (cs' := [c0]) rfl rfl rfl c_u64 rfl rfl)
      obtain ⟨la, e1⟩ := open_u64 (trod_field hall 1 (o := 1) (cs' := [c1]) rfl rfl rfl c_u64 rfl rfl)
      obtain ⟨nd, e2⟩ := open_int (trod_field hall 2 (o := 2) (cs' := [c2]) rfl rfl rfl c_int rfl rfl)
      obtain ⟨li, e3⟩ := open_u64 (trod_field hall 3 (o := 3) (cs' := [c3]) rfl rfl rfl c_u64 rfl rfl)
      obtain ⟨tr, e4⟩ := open_u64 (trod_field hall 4 (o := 4) (cs' := [c4]) rfl rfl rfl c_u64 rfl rfl)
      simp only [List.cons.injEq, and_true] at e0 e1 e2 e3 e4
      subst e0 e1 e2 e3 e4
      exact ⟨⟨se, la, nd, li, tr⟩, rfl, trivial⟩
set_option maxRecDepth 10000 in
set_option maxHeartbeats 4000000 in
theorem open_ml {cs : List Value} {y : DataW H × List MemPlace} {fuel : Nat} (hl : cs.length = 6) (h : DataW.trod enc Try.prog w base spare held fuel 47 cs = some y) : ∃ m : Ml, MlIn w (.agg cs.toArray) m := by
  match cs, hl with
  | [c0, c1, c2, c3, c4, c5], _ =>
    obtain ⟨xs, m, _, _, _, hx, hall⟩ := DataW.trod_struct Try.underlying47 h
    match xs, hx with
    | [x0, x1, x2, x3, x4, x5], _ =>
      obtain ⟨ba, bl, bc, e0, ⟨hr, hq⟩⟩ := open_row bxT (Q := fun k => LtsIn w k.v k.rows) (by kernel_rfl) (fun hl ht => open_bx hl ht) (trod_field hall 0 (o := 0) (cs' := [c0]) rfl rfl rfl c_bxs rfl rfl)
      obtain ⟨nv, e1⟩ := open_u64 (trod_field hall 1 (o := 1) (cs' := [c1]) rfl rfl rfl c_u64 rfl rfl)
      obtain ⟨ha, hl2, hc, e2, ⟨hh, _⟩⟩ := open_row hmT (Q := fun _ => True) (by kernel_rfl) (fun hl ht => open_hm hl ht) (trod_field hall 2 (o := 2) (cs' := [c2]) rfl rfl rfl c_hms rfl rfl)
      obtain ⟨sa, sl, sc, e3, ⟨hs, _⟩⟩ := open_row stT (Q := fun _ => True) (by kernel_rfl) (fun hl ht => open_st hl ht) (trod_field hall 3 (o := 3) (cs' := [c3]) rfl rfl rfl c_sts rfl rfl)
      obtain ⟨ns, e4⟩ := open_u64 (trod_field hall 4 (o := 4) (cs' := [c4]) rfl rfl rfl c_u64 rfl rfl)
      obtain ⟨sw, e5⟩ := open_u64 (trod_field hall 5 (o := 5) (cs' := [c5]) rfl rfl rfl c_u64 rfl rfl)
      simp only [List.cons.injEq, and_true] at e0 e1 e2 e3 e4 e5
      subst e0 e1 e2 e3 e4 e5
      exact ⟨⟨bl.map BxV.b, nv, hl2, sl, ns, sw⟩, _, _, _, bl, rfl, rfl, ⟨hr, hq⟩, hh, hs⟩
theorem open_rg {cs : List Value} {y : DataW H × List MemPlace} {fuel : Nat} (hl : cs.length = 2) (h : DataW.trod enc Try.prog w base spare held fuel 57 cs = some y) : ∃ k : Rng, cs = [.int .u64 k.1, .int .u64 k.2] := by
  match cs, hl with
  | [c0, c1], _ =>
    obtain ⟨xs, m, _, _, _, hx, hall⟩ := DataW.trod_struct Try.underlying57 h
    match xs, hx with
    | [x0, x1], _ =>
      obtain ⟨a, e0⟩ := open_u64 (trod_field hall 0 (o := 0) (cs' := [c0]) rfl rfl rfl c_u64 rfl rfl)
      obtain ⟨b, e1⟩ := open_u64 (trod_field hall 1 (o := 1) (cs' := [c1]) rfl rfl rfl c_u64 rfl rfl)
      simp only [List.cons.injEq, and_true] at e0 e1
      subst e0 e1
      exact ⟨(a, b), rfl⟩
theorem open_rgs {cs : List Value} {y : DataW H × List MemPlace} {fuel : Nat} (h : DataW.trod enc Try.prog w base spare held fuel 29 cs = some y) :
    ∃ (a : Option Addr) (l : List Rng) (cap : Nat), cs = [.slice a l.length cap] ∧ RangesIn w w.heap.size (.slice a l.length cap) l := by
  rcases open_slice Try.underlying29 h with ⟨hcs, _⟩ | ⟨a, len, cap, m, n, D, Pl, hcs, _, hl, hm, hmm, _, hall⟩
  · exact ⟨none, [], 0, hcs, none, 0, rfl, .inl rfl⟩
  · have hlm : len ≤ m := by rw [hmm]; split <;> omega
    rw [show Try.prog.cellsOf 57 = 2 by kernel_rfl] at hall
    obtain ⟨q, hq⟩ := choose_lt (α := Rng) (n := len) (p := fun i k => ∀ j, j < 2 → w.cell? ((a.add (i * 2)).add j) = ([.int .u64 k.1, .int .u64 k.2] : List Value)[j]?) (fun i hi => by
      obtain ⟨cs', hc, ht⟩ := hall i (by omega)
      obtain ⟨_, hcl, hat⟩ := World.cells?_some hc
      obtain ⟨k, rfl⟩ := open_rg hcl ht
      exact ⟨k, hat⟩)
    have hlen : ((List.range len).map q).length = len := by simp
    refine ⟨some a, (List.range len).map q, cap, by rw [hlen]; exact hcs, some a, cap, by rw [hlen], ?_⟩
    rcases Nat.eq_zero_or_pos len with hz | hz
    · exact .inl (List.eq_nil_of_length_eq_zero (by rw [hlen]; exact hz))
    · right
      have c0 := (hq 0 (by omega)) 0 (by decide)
      have e0 : (a.add (0 * 2)).add 0 = a := rfl
      rw [e0] at c0
      obtain ⟨hsp, hbl⟩ := cell_spot c0
      refine ⟨a.block, a.off, by cases a; simp at hsp; subst hsp; rfl, hbl, by rw [hlen]; exact hl, fun j hj => ?_⟩
      rw [hlen] at hj
      have g := hq j hj
      simp only [add_adds a hsp] at g
      rw [List.getElem_map, List.getElem_range]
      exact ⟨g 0 (by decide), g 1 (by decide)⟩
set_option maxRecDepth 10000 in
set_option maxHeartbeats 4000000 in
theorem open_rq {cs : List Value} {y : DataW H × List MemPlace} {fuel : Nat} (hl : cs.length = 17) (h : DataW.trod enc Try.prog w base spare held fuel 77 cs = some y) : ∃ k : RqP, cs = rqT.enc k ∧ RqIn w k.1 k.2 := by
  match cs, hl with
  | [c0, c1, c2, c3, c4, c5, c6, c7, c8, c9, c10, c11, c12, c13, c14, c15, c16], _ =>
    obtain ⟨xs, m, _, _, _, hx, hall⟩ := DataW.trod_struct Try.underlying77 h
    match xs, hx with
    | [x0, x1, x2, x3, x4, x5, x6, x7, x8, x9, x10, x11, x12, x13, x14, x15, x16], _ =>
      obtain ⟨op, e0⟩ := open_int (trod_field hall 0 (o := 0) (cs' := [c0]) rfl rfl rfl c_int rfl rfl)
      obtain ⟨se, e1⟩ := open_u64 (trod_field hall 1 (o := 1) (cs' := [c1]) rfl rfl rfl c_u64 rfl rfl)
      obtain ⟨nu, e2⟩ := open_u64 (trod_field hall 2 (o := 2) (cs' := [c2]) rfl rfl rfl c_u64 rfl rfl)
      obtain ⟨nd, e3⟩ := open_int (trod_field hall 3 (o := 3) (cs' := [c3]) rfl rfl rfl c_int rfl rfl)
      obtain ⟨li, e4⟩ := open_u64 (trod_field hall 4 (o := 4) (cs' := [c4]) rfl rfl rfl c_u64 rfl rfl)
      obtain ⟨tr, e5⟩ := open_u64 (trod_field hall 5 (o := 5) (cs' := [c5]) rfl rfl rfl c_u64 rfl rfl)
      obtain ⟨bx, e6⟩ := open_str (trod_field hall 6 (o := 6) (cs' := [c6]) rfl rfl rfl c_str rfl rfl)
      obtain ⟨too, e7⟩ := open_str (trod_field hall 7 (o := 7) (cs' := [c7]) rfl rfl rfl c_str rfl rfl)
      obtain ⟨va, e8⟩ := open_u64 (trod_field hall 8 (o := 8) (cs' := [c8]) rfl rfl rfl c_u64 rfl rfl)
      obtain ⟨ua, ul, uc, e9, hu⟩ := open_rgs (trod_field hall 9 (o := 9) (cs' := [c9]) rfl rfl rfl c_rgs rfl rfl)
      obtain ⟨fa, fl, fc, e10, hf⟩ := open_flagsP (trod_field hall 10 (o := 10) (cs' := [c10]) rfl rfl rfl c_strs rfl rfl)
      obtain ⟨hw, e11⟩ := open_int (trod_field hall 11 (o := 11) (cs' := [c11]) rfl rfl rfl c_int rfl rfl)
      obtain ⟨ha, e12⟩ := open_bool (trod_field hall 12 (o := 12) (cs' := [c12]) rfl rfl rfl c_bool rfl rfl)
      obtain ⟨si, e13⟩ := open_u64 (trod_field hall 13 (o := 13) (cs' := [c13]) rfl rfl rfl c_u64 rfl rfl)
      obtain ⟨hs, e14⟩ := open_str (trod_field hall 14 (o := 14) (cs' := [c14]) rfl rfl rfl c_str rfl rfl)
      obtain ⟨sz, e15⟩ := open_u64 (trod_field hall 15 (o := 15) (cs' := [c15]) rfl rfl rfl c_u64 rfl rfl)
      obtain ⟨sw, e16⟩ := open_u64 (trod_field hall 16 (o := 16) (cs' := [c16]) rfl rfl rfl c_u64 rfl rfl)
      simp only [List.cons.injEq, and_true] at e0 e1 e2 e3 e4 e5 e6 e7 e8 e9 e10 e11 e12 e13 e14 e15 e16
      subst e0 e1 e2 e3 e4 e5 e6 e7 e8 e9 e10 e11 e12 e13 e14 e15 e16
      exact ⟨⟨⟨op, se, nu, nd, li, tr, bx, too, va, ul, fl, hw, ha, si, hs, sz, sw⟩, ⟨ua, uc, fa, fc⟩⟩, rfl, hu, hf⟩
set_option maxRecDepth 10000 in
/-- a state, as a parameter -/
theorem open_mail {r : Reach} {b : Nat} {v : Value} {d : DataW H} {p : List MemPlace} (hv : Value.okWide Try.prog w r b 47 v) (h : DataW.Trod enc Try.prog w base spare held 47 v d p) : ∃ m : Ml, MlIn w v m := by
  obtain ⟨cs, rfl, hsz⟩ := okWide_struct Try.underlying47 hv
  rw [show Try.prog.cellsOf 47 = 6 by kernel_rfl] at hsz
  obtain ⟨l⟩ := cs
  obtain ⟨fuel, hf⟩ := h
  simp only [Value.cells] at hf
  exact open_ml (by simpa using hsz) hf
set_option maxRecDepth 10000 in
/-- a request, as a parameter -/
theorem open_request {r : Reach} {b : Nat} {v : Value} {d : DataW H} {p : List MemPlace} (hv : Value.okWide Try.prog w r b 77 v) (h : DataW.Trod enc Try.prog w base spare held 77 v d p) : ∃ k : RqP, v = .agg (rqT.enc k).toArray ∧ RqIn w k.1 k.2 := by
  obtain ⟨cs, rfl, hsz⟩ := okWide_struct Try.underlying77 hv
  rw [show Try.prog.cellsOf 77 = 17 by kernel_rfl] at hsz
  obtain ⟨l⟩ := cs
  obtain ⟨fuel, hf⟩ := h
  simp only [Value.cells] at hf
  obtain ⟨k, h1, h2⟩ := open_rq (by simpa using hsz) hf
  exact ⟨k, by rw [← h1], h2⟩
set_option maxRecDepth 10000 in
/-- requests, as a parameter -/
theorem open_reqs {r : Reach} {b : Nat} {v : Value} {d : DataW H} {p : List MemPlace} (hv : Value.okWide Try.prog w r b 74 v) (h : DataW.Trod enc Try.prog w base spare held 74 v d p) : ∃ l : List RqP, RqsIn w v l := by
  obtain ⟨a0, len, cap, rfl⟩ := okWide_slice Try.underlying74 hv
  obtain ⟨fuel, hf⟩ := h
  simp only [Value.cells] at hf
  obtain ⟨a, l, c, hcs, hr, hq⟩ := open_row rqT (Q := fun k => RqIn w k.1 k.2) (by kernel_rfl) (fun hl ht => open_rq hl ht) hf
  have : a0 = a ∧ len = l.length ∧ cap = c := by simpa using hcs
  obtain ⟨rfl, rfl, rfl⟩ := this
  exact ⟨l, hr, hq⟩
end
end Go.Proofs.Ytcnebfmlelcliaa
namespace Go.Proofs.Ytcnebfmlelcliaa
set_option linter.unusedSimpArgs false
open Go.ChangeShapes Go.WideShapes Go.ChangeAt Go.RowKit Go.Deep
section
variable {H : Type} {enc : TypeId × Value → H} {w : World} {base : Nat} {spare : Nat → Bool} {held : Bool}
theorem c_rows : Try.prog.cellsOf 23 = 1 := by kernel_rfl
set_option maxRecDepth 10000 in
theorem open_rw {cs : List Value} {y : DataW H × List MemPlace} {fuel : Nat} (hl : cs.length = 2) (h : DataW.trod enc Try.prog w base spare held fuel 63 cs = some y) : ∃ k : Nat × Nat, cs = rowT.enc k ∧ True := by
  match cs, hl with
  | [c0, c1], _ =>
    obtain ⟨xs, m, _, _, _, hx, hall⟩ := DataW.trod_struct Try.underlying63 h
    match xs, hx with
    | [x0, x1], _ =>
      obtain ⟨a, e0⟩ := open_u64 (trod_field hall 0 (o := 0) (cs' := [c0]) rfl rfl rfl c_u64 rfl rfl)
      obtain ⟨b, e1⟩ := open_u64 (trod_field hall 1 (o := 1) (cs' := [c1]) rfl rfl rfl c_u64 rfl rfl)
      simp only [List.cons.injEq, and_true] at e0 e1
      subst e0 e1
      exact ⟨(a, b), rfl, trivial⟩
set_option maxRecDepth 10000 in
set_option maxHeartbeats 4000000 in
/-- a view, as a parameter -/
theorem open_viewP {r : Reach} {b : Nat} {v : Value} {d : DataW H} {p : List MemPlace} (hv : Value.okWide Try.prog w r b 25 v) (h : DataW.Trod enc Try.prog w base spare held 25 v d p) : ∃ (s : ByteArray) (val : Nat) (vr : Value) (l : List (Nat × Nat)), v = .agg #[.string s, .int .u64 val, vr] ∧ RangesIn w w.heap.size vr l := by
  obtain ⟨cs, rfl, hsz⟩ := okWide_struct Try.underlying25 hv
  rw [show Try.prog.cellsOf 25 = 3 by kernel_rfl] at hsz
  obtain ⟨l⟩ := cs
  obtain ⟨fuel, hf⟩ := h
  simp only [Value.cells] at hf
  have hl : l.length = 3 := by simpa using hsz
  match l, hl with
  | [c0, c1, c2], _ =>
    obtain ⟨xs, m, _, _, _, hx, hall⟩ := DataW.trod_struct Try.underlying25 hf
    match xs, hx with
    | [x0, x1, x2], _ =>
      obtain ⟨nm, e0⟩ := open_str (trod_field hall 0 (o := 0) (cs' := [c0]) rfl rfl rfl c_str rfl rfl)
      obtain ⟨va, e1⟩ := open_u64 (trod_field hall 1 (o := 1) (cs' := [c1]) rfl rfl rfl c_u64 rfl rfl)
      obtain ⟨la, ll, lc, e2, ⟨hr, -⟩⟩ := open_row rowT (Q := fun _ => True) (by kernel_rfl) (fun hl ht => open_rw hl ht) (trod_field hall 2 (o := 2) (cs' := [c2]) rfl rfl rfl c_rows rfl rfl)
      simp only [List.cons.injEq, and_true] at e0 e1 e2
      subst e0 e1 e2
      exact ⟨nm, va, _, ll, rfl, Rd.ranges hr⟩
set_option maxRecDepth 10000 in
/-- a mailbox, as a parameter -/
theorem open_boxP {r : Reach} {b : Nat} {v : Value} {d : DataW H} {p : List MemPlace} (hv : Value.okWide Try.prog w r b 28 v) (h : DataW.Trod enc Try.prog w base spare held 28 v d p) : ∃ z : BxV, v = .agg (bxCells z).toArray ∧ LtsIn w z.v z.rows := by
  obtain ⟨cs, rfl, hsz⟩ := okWide_struct Try.underlying28 hv
  rw [show Try.prog.cellsOf 28 = 5 by kernel_rfl] at hsz
  obtain ⟨l⟩ := cs
  obtain ⟨fuel, hf⟩ := h
  simp only [Value.cells] at hf
  obtain ⟨k, h1, h2⟩ := open_bx (by simpa using hsz) hf
  exact ⟨k, by rw [h1]; rfl, h2⟩
set_option maxRecDepth 10000 in
/-- ranges, as a parameter -/
theorem open_rangesP {r : Reach} {b : Nat} {v : Value} {d : DataW H} {p : List MemPlace} (hv : Value.okWide Try.prog w r b 29 v) (h : DataW.Trod enc Try.prog w base spare held 29 v d p) : ∃ rs : List (Nat × Nat), RangesIn w w.heap.size v rs := by
  obtain ⟨a0, len, cap, rfl⟩ := okWide_slice Try.underlying29 hv
  obtain ⟨fuel, hf⟩ := h
  simp only [Value.cells] at hf
  obtain ⟨a, l, c, hcs, hr⟩ := open_rgs hf
  have : a0 = a ∧ len = l.length ∧ cap = c := by simpa using hcs
  obtain ⟨rfl, rfl, rfl⟩ := this
  exact ⟨l, hr⟩
theorem cells_u64V : ∀ l : List Nat, u64T.cells l = l.map encU
  | [] => rfl
  | x :: r => by
    have h : u64T.cells (x :: r) = .int .u64 (x : Int) :: u64T.cells r := rfl
    rw [h, cells_u64V r]
    rfl
set_option maxRecDepth 10000 in
/-- numbers, as a parameter -/
theorem open_numsP {r : Reach} {b : Nat} {v : Value} {d : DataW H} {p : List MemPlace} (hv : Value.okWide Try.prog w r b 30 v) (h : DataW.Trod enc Try.prog w base spare held 30 v d p) : ∃ us : List Nat, Rd w v us.length (us.map encU) ∧ ∀ x ∈ us, x < 18446744073709551616 := by
  obtain ⟨a0, len, cap, rfl⟩ := okWide_slice Try.underlying30 hv
  obtain ⟨fuel, hf⟩ := h
  simp only [Value.cells] at hf
  obtain ⟨a, l, c, hcs, hr, hq⟩ := open_row u64T (Q := fun x => x < 18446744073709551616) (by kernel_rfl) (fun hl ht => by
    obtain ⟨n, hcs, _, hw⟩ := DataW.trod_int Try.underlying22 ht
    have hb := bounds_u64 hw
    exact ⟨n.toNat, by rw [hcs]; show [Value.int .u64 n] = [Value.int .u64 (n.toNat : Int)]; rw [Int.toNat_of_nonneg (by omega)], by omega⟩) hf
  have : a0 = a ∧ len = l.length ∧ cap = c := by simpa using hcs
  obtain ⟨rfl, rfl, rfl⟩ := this
  rw [cells_u64V] at hr
  exact ⟨l, hr, hq⟩
end
end Go.Proofs.Ytcnebfmlelcliaa
namespace Go.Proofs.Ytcnebfmlelcliaa
open Go.RowKit
theorem viewSets_any (sv lv : Value) (byUid : Bool) (W : World) (hs : ∃ m : Ml, MlIn W sv m) (hl : ∃ rs : List (Nat × Nat), RangesIn W W.heap.size lv rs) :
    Calls Try.prog 4 #[sv, lv, .bool byUid] W fun e w' => e = .returned (.bool true) ∧ Below W.heap.size W w' := by
  obtain ⟨m, hin⟩ := hs
  obtain ⟨rs, hr⟩ := hl
  exact viewSets_walk sv lv m rs byUid W hin hr
end Go.Proofs.Ytcnebfmlelcliaa
