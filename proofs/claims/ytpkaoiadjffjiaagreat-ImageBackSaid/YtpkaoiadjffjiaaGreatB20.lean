/- Opening arguments that are slices, by what they read as; the bulk of what is read. Opening states and requests: what the form says of a parameter, as the walks ask it. (written by tools/gen_ImP.py out of MnO) ImageApart: walked. (written by tools/gen_ImQ.py) -/
import Derived.Test.YtpkaoiadjffjiaaGreatRows
import Derived.Test.YtpkaoiadjffjiaaGreatB01
import Derived.WalkKit
import Derived.ProofKit
import Derived.SliceStrings
import Derived.OpenShut
import Derived.Test.YtpkaoiadjffjiaaGreatB12
import Derived.Test.YtpkaoiadjffjiaaGreatB15
import Derived.Test.YtpkaoiadjffjiaaGreatOpen
import Derived.SizedLaws
import Derived.Deep.Slices
import Derived.Test.YtpkaoiadjffjiaaGreatB19
namespace Go.Proofs.YtpkaoiadjffjiaaGreat
open Go.ChangeShapes Go.WideShapes Go.ChangeAt Go.RowKit

theorem bulk_strs {H : Type} : ∀ ss : List ByteArray, Rows.uptoBulkAll (strs (H := H) ss) = (catB ss).length + ss.length
  | [] => rfl
  | s :: r => by
    have := bulk_strs (H := H) r
    simp only [strs, List.map_cons, Rows.uptoBulkAll, Rows.uptoBulk, catB, List.flatMap_cons, List.length_append, List.length_cons] at this ⊢
    omega
theorem cell_spot {w : World} {a : Addr} {v : Value} (h : w.cell? a = some v) : a.spot = none ∧ a.block < w.heap.size := by
  unfold World.cell? at h
  split at h
  · rename_i heq
    refine ⟨?_, (Array.getElem?_eq_some_iff.1 heq).1⟩
    cases hs : a.spot with
    | none => rfl
    | some x => simp [hs] at h
  · cases h
/-- a slice of texts -/
theorem open_texts {H : Type} {enc : TypeId × Value → H} {P : Program} {w : World} {r : Reach} {b base : Nat} {spare : Nat → Bool} {held : Bool} {t e : TypeId} {v : Value} {d : DataW H} {p : List MemPlace}
    (ht : P.underlying t = some (.slice e)) (he : P.underlying e = some .string) (hce : P.cellsOf e = 1)
    (hv : Value.okWide P w r b t v) (h : DataW.Trod enc P w base spare held t v d p) :
    ∃ ss : List ByteArray, Rd w v ss.length (strCells ss) ∧ (catB ss).length + ss.length ≤ Rows.uptoBulk d := by
  obtain ⟨a0, len, cap, rfl⟩ := okWide_slice ht hv
  obtain ⟨fuel, hf⟩ := h
  rcases open_strings ht he hce hf with ⟨hcs, hx⟩ | ⟨a, len', cap', ss, hcs, _, hl, hm, hz, hx, hcell, hsz⟩
  · have : a0 = none ∧ len = 0 ∧ cap = 0 := by simpa [Value.cells] using hcs
    obtain ⟨rfl, rfl, rfl⟩ := this
    exact ⟨[], ⟨none, 0, rfl, .inl rfl⟩, by simp [catB]⟩
  · have : a0 = some a ∧ len = len' ∧ cap = cap' := by simpa [Value.cells] using hcs
    obtain ⟨rfl, rfl, rfl⟩ := this
    have hle : len ≤ ss.length := by rw [hz]; split <;> omega
    have hll : (ss.take len).length = len := by rw [List.length_take]; omega
    refine ⟨ss.take len, ⟨some a, cap, by rw [hll], ?_⟩, ?_⟩
    · rcases Nat.eq_zero_or_pos len with h0 | h0
      · exact .inl (by rw [hll]; exact h0)
      · right
        obtain ⟨hs, hb⟩ := cell_spot (hcell 0 (by omega))
        have e0 : a.add 0 = a := rfl
        rw [e0] at hs hb
        refine ⟨a.block, a.off, by cases a; simp at hs; subst hs; rfl, hb, by rw [hll]; exact hl, fun i u hu => ?_⟩
        have hi : i < len := by
          have := (List.getElem?_eq_some_iff.1 hu).1
          simp [strCells] at this; omega
        have hc := hcell i (by omega)
        have ha : a.add i = ⟨a.block, a.off + i, none⟩ := by
          cases a with
          | mk x y z => simp at hs; subst hs; exact Addr.add_lit ..
        rw [ha] at hc
        rw [hc]
        have hget : (strCells (ss.take len))[i]? = some (.string (ss.getD i ByteArray.empty)) := by
          simp [strCells, hi, List.getD, List.getElem?_eq_getElem (show i < ss.length by omega)]
        rw [hget] at hu
        exact hu
    · simp only [Prod.mk.injEq] at hx
      rw [hx.1]
      simp only [Rows.uptoBulk]
      rw [bulk_strs, hll]
      omega
end Go.Proofs.YtpkaoiadjffjiaaGreat
namespace Go.Proofs.YtpkaoiadjffjiaaGreat
set_option linter.unusedSimpArgs false
open Go.ChangeShapes Go.WideShapes Go.ChangeAt Go.RowKit Go.Deep

theorem add_spotless {a : Addr} (hs : a.spot = none) (i : Nat) : a.add i = ⟨a.block, a.off + i, none⟩ := by
  cases a with
  | mk x y z => simp at hs; subst hs; exact Addr.add_lit ..
theorem add_adds (a : Addr) (hs : a.spot = none) (i j : Nat) : (a.add i).add j = ⟨a.block, a.off + i + j, none⟩ := by
  rw [add_spotless hs]; exact Addr.add_lit ..
theorem nat_u64 {n : Int} (h : (Lit.int .u64 n).wf = true) : ∃ k : Nat, n = (k : Int) := by
  have := bounds_u64 h
  exact ⟨n.toNat, by omega⟩
section
variable {H : Type} {enc : TypeId × Value → H} {w : World} {base : Nat} {spare : Nat → Bool} {held : Bool}
theorem trod_field {P : Program} {m : Nat} {fs : Array Field} {cs : List Value} {xs : List (DataW H × List MemPlace)}
    (h : ∀ (i : Nat) (f : Field), fs[i]? = some f → DataW.trod enc P w base spare held m f.type ((cs.drop f.offset).take (P.cellsOf f.type)) = xs[i]?) (i : Nat) {f : Field} {t o n : Nat} {cs' : List Value} {x : DataW H × List MemPlace}
    (hf : fs[i]? = some f) (ht : f.type = t) (ho : f.offset = o) (hc : P.cellsOf t = n) (hcs : (cs.drop o).take n = cs') (hx : xs[i]? = some x) : DataW.trod enc P w base spare held m t cs' = some x := by
  subst ht ho hc hcs
  rw [h i f hf, hx]
theorem open_u64 {cs : List Value} {y : DataW H × List MemPlace} {fuel : Nat} (h : DataW.trod enc Tryz.prog w base spare held fuel 23 cs = some y) : ∃ n : Nat, cs = [.int .u64 n] := by
  obtain ⟨n, hcs, _, hw⟩ := DataW.trod_int Tryz.underlying23 h
  obtain ⟨k, rfl⟩ := nat_u64 hw
  exact ⟨k, hcs⟩
theorem open_u64b {cs : List Value} {y : DataW H × List MemPlace} {fuel : Nat} (h : DataW.trod enc Tryz.prog w base spare held fuel 23 cs = some y) : ∃ n : Nat, cs = [.int .u64 n] ∧ n ≤ M64 := by
  obtain ⟨n, hcs, _, hw⟩ := DataW.trod_int Tryz.underlying23 h
  have hb := bounds_u64 hw
  obtain ⟨k, rfl⟩ := nat_u64 hw
  exact ⟨k, hcs, by unfold M64; omega⟩
theorem open_int {cs : List Value} {y : DataW H × List MemPlace} {fuel : Nat} (h : DataW.trod enc Tryz.prog w base spare held fuel 3 cs = some y) : ∃ n : Int, cs = [.int .i64 n] := by
  obtain ⟨n, hcs, _, _⟩ := DataW.trod_int Tryz.underlying3 h
  exact ⟨n, hcs⟩
theorem open_bool {cs : List Value} {y : DataW H × List MemPlace} {fuel : Nat} (h : DataW.trod enc Tryz.prog w base spare held fuel 4 cs = some y) : ∃ n : Bool, cs = [.bool n] := by
  obtain ⟨n, hcs, _⟩ := DataW.trod_bool Tryz.underlying4 h
  exact ⟨n, hcs⟩
theorem open_str {cs : List Value} {y : DataW H × List MemPlace} {fuel : Nat} (h : DataW.trod enc Tryz.prog w base spare held fuel 9 cs = some y) : ∃ n : ByteArray, cs = [.string n] := by
  obtain ⟨n, hcs, _, _⟩ := DataW.trod_string Tryz.underlying9 h
  exact ⟨n, hcs⟩
/-- a slice of texts as a part -/
theorem open_flagsP {cs : List Value} {y : DataW H × List MemPlace} {fuel : Nat} (h : DataW.trod enc Tryz.prog w base spare held fuel 43 cs = some y) :
    ∃ (a : Option Addr) (l : List (List UInt8)) (cap : Nat), cs = [.slice a l.length cap] ∧ FlIn w (.slice a l.length cap) l := by
  rcases open_strings Tryz.underlying43 Tryz.underlying9 (by kernel_rfl) h with ⟨hcs, hx⟩ | ⟨a, len, cap, ss, hcs, _, hl, hm, hz, hx, hcell, hsz⟩
  · exact ⟨none, [], 0, hcs, none, 0, rfl, .inl rfl⟩
  · have hle : len ≤ ss.length := by rw [hz]; split <;> omega
    have hll : ((ss.take len).map (·.data.toList)).length = len := by rw [List.length_map, List.length_take]; omega
    refine ⟨some a, (ss.take len).map (·.data.toList), cap, by rw [hll]; exact hcs, some a, cap, rfl, ?_⟩
    rcases Nat.eq_zero_or_pos len with h0 | h0
    · exact .inl (by rw [hll]; exact h0)
    · right
      obtain ⟨hs, hb⟩ := cell_spot (hcell 0 (by omega))
      have e0 : a.add 0 = a := rfl
      rw [e0] at hs hb
      refine ⟨a.block, a.off, by cases a; simp at hs; subst hs; rfl, hb, by rw [hll]; exact hl, fun i u hu => ?_⟩
      have hi : i < len := by
        have := (List.getElem?_eq_some_iff.1 hu).1
        rw [List.length_map, hll] at this
        exact this
      have hc := hcell i (by omega)
      rw [add_spotless hs] at hc
      rw [hc]
      have hget : (((ss.take len).map (·.data.toList)).map encStr)[i]? = some (.string (ss.getD i ByteArray.empty)) := by
        rw [List.getElem?_map, List.getElem?_map, List.getElem?_take_of_lt hi, List.getElem?_eq_getElem (by omega)]
        simp [List.getD, List.getElem?_eq_getElem (show i < ss.length by omega), encStr]
      rw [hget] at hu
      exact hu
/-- a slice of structs as a part -/
theorem open_row {α : Type} [Inhabited α] (R : RT α) {Q : α → Prop} (hc : Tryz.prog.cellsOf R.t = R.K)
    (elem : ∀ {fuel : Nat} {cs : List Value} {y : DataW H × List MemPlace}, cs.length = R.K → DataW.trod enc Tryz.prog w base spare held fuel R.t cs = some y → ∃ x, cs = R.enc x ∧ Q x)
    {cs : List Value} {y : DataW H × List MemPlace} {fuel : Nat} (h : DataW.trod enc Tryz.prog w base spare held fuel R.ts cs = some y) :
    ∃ (a : Option Addr) (l : List α) (cap : Nat), cs = [.slice a l.length cap] ∧ Rd w (.slice a l.length cap) l.length (R.cells l) ∧ ∀ x ∈ l, Q x := by
  rcases open_slice R.und h with ⟨hcs, _⟩ | ⟨a, len, cap, m, n, D, Pl, hcs, _, hl, hm, hmm, _, hall⟩
  · exact ⟨none, [], 0, hcs, ⟨none, 0, rfl, .inl rfl⟩, fun x hx => by cases hx⟩
  · have hlm : len ≤ m := by rw [hmm]; split <;> omega
    rw [hc] at hall
    obtain ⟨q, hq⟩ := choose_lt (α := α) (n := len) (p := fun i x => (∀ j, j < R.K → w.cell? ((a.add (i * R.K)).add j) = (R.enc x)[j]?) ∧ Q x) (fun i hi => by
      obtain ⟨cs', hc', ht⟩ := hall i (by omega)
      obtain ⟨_, hcl, hat⟩ := World.cells?_some hc'
      obtain ⟨x, rfl, hx⟩ := elem hcl ht
      exact ⟨x, hat, hx⟩)
    have hlen : ((List.range len).map q).length = len := by simp
    refine ⟨some a, (List.range len).map q, cap, by rw [hlen]; exact hcs, ⟨some a, cap, rfl, ?_⟩, fun x hx => ?_⟩
    · rcases Nat.eq_zero_or_pos len with hz | hz
      · exact .inl (by rw [hlen]; exact hz)
      · right
        have hpos := R.pos
        have c0 := (hq 0 (by omega)).1 0 hpos
        have e0 : (a.add (0 * R.K)).add 0 = a := by rw [Nat.zero_mul]; rfl
        rw [e0, List.getElem?_eq_getElem (by rw [R.len]; exact hpos)] at c0
        obtain ⟨hsp, hbl⟩ := cell_spot c0
        refine ⟨a.block, a.off, by cases a; simp at hsp; subst hsp; rfl, hbl, by rw [hlen]; exact hl, fun i u hu => ?_⟩
        have hi := (List.getElem?_eq_some_iff.1 hu).1
        rw [R.cells_len, hlen] at hi
        have hd : i / R.K < len := Nat.div_lt_of_lt_mul (by rw [Nat.mul_comm]; exact hi)
        have hr : i % R.K < R.K := Nat.mod_lt _ hpos
        have hsplit : i / R.K * R.K + i % R.K = i := by rw [Nat.mul_comm]; exact Nat.div_add_mod i R.K
        have g := (hq (i / R.K) hd).1 (i % R.K) hr
        rw [add_adds a hsp, Nat.add_assoc, hsplit] at g
        rw [g]
        have hg := R.cells_get ((List.range len).map q) (i / R.K) (by rw [hlen]; exact hd) (i % R.K) hr
        rw [hsplit, hu, List.getElem_map, List.getElem_range] at hg
        exact hg.symm
    · obtain ⟨i, hi, rfl⟩ := List.mem_map.1 hx
      exact (hq i (List.mem_range.1 hi)).2
theorem c_u64 : Tryz.prog.cellsOf 23 = 1 := by kernel_rfl
theorem c_int : Tryz.prog.cellsOf 3 = 1 := by kernel_rfl
theorem c_bool : Tryz.prog.cellsOf 4 = 1 := by kernel_rfl
theorem c_str : Tryz.prog.cellsOf 9 = 1 := by kernel_rfl
theorem c_strs : Tryz.prog.cellsOf 43 = 1 := by kernel_rfl
theorem c_lts : Tryz.prog.cellsOf 38 = 1 := by kernel_rfl
theorem c_bxs : Tryz.prog.cellsOf 22 = 1 := by kernel_rfl
theorem c_hms : Tryz.prog.cellsOf 24 = 1 := by kernel_rfl
theorem c_sts : Tryz.prog.cellsOf 25 = 1 := by kernel_rfl
instance : Inhabited LtV := ⟨⟨⟨0, [], 0, ⟨#[]⟩, 0⟩, none, 0⟩⟩
instance : Inhabited BxV := ⟨⟨⟨#[]⟩, 0, 0, 0, [], none, 0⟩⟩
instance : Inhabited Hm := ⟨⟨0, 0, 0⟩⟩
instance : Inhabited St := ⟨⟨0, 0, 0, 0, 0⟩⟩
set_option maxRecDepth 10000 in
set_option maxHeartbeats 4000000 in
theorem open_lt {cs : List Value} {y : DataW H × List MemPlace} {fuel : Nat} (hl : cs.length = 5) (h : DataW.trod enc Tryz.prog w base spare held fuel 45 cs = some y) : ∃ k : LtV, cs = ltT.enc k ∧ FlIn w k.v k.x.flags := by
  match cs, hl with
  | [c0, c1, c2, c3, c4], _ =>
    obtain ⟨xs, m, _, _, _, hx, hall⟩ := DataW.trod_struct Tryz.underlying45 h
    match xs, hx with
    | [x0, x1, x2, x3, x4], _ =>
      obtain ⟨uid, e0⟩ := open_u64 (trod_field hall 0 (o := 0) (cs' := [c0]) rfl rfl rfl c_u64 rfl rfl)
      obtain ⟨fa, fl, fc, e1, hf⟩ := open_flagsP (trod_field hall 1 (o := 1) (cs' := [c1]) rfl rfl rfl c_strs rfl rfl)
      obtain ⟨md, e2⟩ := open_u64 (trod_field hall 2 (o := 2) (cs' := [c2]) rfl rfl rfl c_u64 rfl rfl)
      obtain ⟨hs, e3⟩ := open_str (trod_field hall 3 (o := 3) (cs' := [c3]) rfl rfl rfl c_str rfl rfl)
      obtain ⟨sz, e4⟩ := open_u64 (trod_field hall 4 (o := 4) (cs' := [c4]) rfl rfl rfl c_u64 rfl rfl)
      simp only [List.cons.injEq, and_true] at e0 e1 e2 e3 e4
      subst e0 e1 e2 e3 e4
      exact ⟨⟨⟨uid, fl, md, hs, sz⟩, fa, fc⟩, rfl, hf⟩
set_option maxRecDepth 10000 in
set_option maxHeartbeats 4000000 in
theorem open_bx {cs : List Value} {y : DataW H × List MemPlace} {fuel : Nat} (hl : cs.length = 5) (h : DataW.trod enc Tryz.prog w base spare held fuel 40 cs = some y) : ∃ k : BxV, cs = bxT.enc k ∧ LtsIn w k.v k.rows := by
  match cs, hl with
  | [c0, c1, c2, c3, c4], _ =>
    obtain ⟨xs, m, _, _, _, hx, hall⟩ := DataW.trod_struct Tryz.underlying40 h
    match xs, hx with
    | [x0, x1, x2, x3, x4], _ =>
      obtain ⟨nm, e0⟩ := open_str (trod_field hall 0 (o := 0) (cs' := [c0]) rfl rfl rfl c_str rfl rfl)
      obtain ⟨va, e1⟩ := open_u64 (trod_field hall 1 (o := 1) (cs' := [c1]) rfl rfl rfl c_u64 rfl rfl)
      obtain ⟨nx, e2⟩ := open_u64 (trod_field hall 2 (o := 2) (cs' := [c2]) rfl rfl rfl c_u64 rfl rfl)
      obtain ⟨hg, e3⟩ := open_u64 (trod_field hall 3 (o := 3) (cs' := [c3]) rfl rfl rfl c_u64 rfl rfl)
      obtain ⟨la, ll, lc, e4, ⟨hr, hq⟩⟩ := open_row ltT (Q := fun k => FlIn w k.v k.x.flags) (by kernel_rfl) (fun hl ht => open_lt hl ht) (trod_field hall 4 (o := 4) (cs' := [c4]) rfl rfl rfl c_lts rfl rfl)
      simp only [List.cons.injEq, and_true] at e0 e1 e2 e3 e4
      subst e0 e1 e2 e3 e4
      exact ⟨⟨nm, va, nx, hg, ll, la, lc⟩, rfl, hr, hq⟩
set_option maxRecDepth 10000 in
set_option maxHeartbeats 4000000 in
theorem open_hm {cs : List Value} {y : DataW H × List MemPlace} {fuel : Nat} (hl : cs.length = 3) (h : DataW.trod enc Tryz.prog w base spare held fuel 51 cs = some y) : ∃ k : Hm, cs = hmT.enc k ∧ (k.life ≤ M64 ∧ k.try_ ≤ M64) := by
  match cs, hl with
  | [c0, c1, c2], _ =>
    obtain ⟨xs, m, _, _, _, hx, hall⟩ := DataW.trod_struct Tryz.underlying51 h
    match xs, hx with
    | [x0, x1, x2], _ =>
      obtain ⟨nd, e0⟩ := open_int (trod_field hall 0 (o := 0) (cs' := [c0]) rfl rfl rfl c_int rfl rfl)
      obtain ⟨li, e1, b1⟩ := open_u64b (trod_field hall 1 (o := 1) (cs' := [c1]) rfl rfl rfl c_u64 rfl rfl)
      obtain ⟨tr, e2, b2⟩ := open_u64b (trod_field hall 2 (o := 2) (cs' := [c2]) rfl rfl rfl c_u64 rfl rfl)
      simp only [List.cons.injEq, and_true] at e0 e1 e2
      subst e0 e1 e2
      exact ⟨⟨nd, li, tr⟩, rfl, b1, b2⟩
set_option maxRecDepth 10000 in
set_option maxHeartbeats 4000000 in
theorem open_st {cs : List Value} {y : DataW H × List MemPlace} {fuel : Nat} (hl : cs.length = 5) (h : DataW.trod enc Tryz.prog w base spare held fuel 55 cs = some y) : ∃ k : St, cs = stT.enc k ∧ k.last ≤ M64 := by
  match cs, hl with
  | [c0, c1, c2, c3, c4], _ =>
    obtain ⟨xs, m, _, _, _, hx, hall⟩ := DataW.trod_struct Tryz.underlying55 h
    match xs, hx with
    | [x0, x1, x2, x3, x4], _ =>
      obtain ⟨se, e0⟩ := open_u64 (trod_field hall 0 (o := 0) (cs' := [c0]) rfl rfl rfl c_u64 rfl rfl)
      obtain ⟨la, e1, b1⟩ := open_u64b (trod_field hall 1 (o := 1) (cs' := [c1]) rfl rfl rfl c_u64 rfl rfl)
      obtain ⟨nd, e2⟩ := open_int (trod_field hall 2 (o := 2) (cs' := [c2]) rfl rfl rfl c_int rfl rfl)
      obtain ⟨li, e3⟩ := open_u64 (trod_field hall 3 (o := 3) (cs' := [c3]) rfl rfl rfl c_u64 rfl rfl)
      obtain ⟨tr, e4⟩ := open_u64 (trod_field hall 4 (o := 4) (cs' := [c4]) rfl rfl rfl c_u64 rfl rfl)
      simp only [List.cons.injEq, and_true] at e0 e1 e2 e3 e4
      subst e0 e1 e2 e3 e4
      exact ⟨⟨se, la, nd, li, tr⟩, rfl, b1⟩
set_option maxRecDepth 10000 in
set_option maxHeartbeats 4000000 in
theorem open_ml {cs : List Value} {y : DataW H × List MemPlace} {fuel : Nat} (hl : cs.length = 6) (h : DataW.trod enc Tryz.prog w base spare held fuel 27 cs = some y) : ∃ m : Ml, MlIn w (.agg cs.toArray) m ∧ NumsOk m := by
  match cs, hl with
  | [c0, c1, c2, c3, c4, c5], _ =>
    obtain ⟨xs, m, _, _, _, hx, hall⟩ := DataW.trod_struct Tryz.underlying27 h
    match xs, hx with
    | [x0, x1, x2, x3, x4, x5], _ =>
      obtain ⟨ba, bl, bc, e0, ⟨hr, hq⟩⟩ := open_row bxT (Q := fun k => LtsIn w k.v k.rows) (by kernel_rfl) (fun hl ht => open_bx hl ht) (trod_field hall 0 (o := 0) (cs' := [c0]) rfl rfl rfl c_bxs rfl rfl)
      obtain ⟨nv, e1⟩ := open_u64 (trod_field hall 1 (o := 1) (cs' := [c1]) rfl rfl rfl c_u64 rfl rfl)
      obtain ⟨ha, hl2, hc, e2, ⟨hh, hn⟩⟩ := open_row hmT (Q := fun k => k.life ≤ M64 ∧ k.try_ ≤ M64) (by kernel_rfl) (fun hl ht => open_hm hl ht) (trod_field hall 2 (o := 2) (cs' := [c2]) rfl rfl rfl c_hms rfl rfl)
      obtain ⟨sa, sl, sc, e3, ⟨hs, hm⟩⟩ := open_row stT (Q := fun k => k.last ≤ M64) (by kernel_rfl) (fun hl ht => open_st hl ht) (trod_field hall 3 (o := 3) (cs' := [c3]) rfl rfl rfl c_sts rfl rfl)
      obtain ⟨ns, e4⟩ := open_u64 (trod_field hall 4 (o := 4) (cs' := [c4]) rfl rfl rfl c_u64 rfl rfl)
      obtain ⟨sw, e5⟩ := open_u64 (trod_field hall 5 (o := 5) (cs' := [c5]) rfl rfl rfl c_u64 rfl rfl)
      simp only [List.cons.injEq, and_true] at e0 e1 e2 e3 e4 e5
      subst e0 e1 e2 e3 e4 e5
      exact ⟨⟨bl.map BxV.b, nv, hl2, sl, ns, sw⟩, ⟨_, _, _, bl, rfl, rfl, ⟨hr, hq⟩, hh, hs⟩, hn, hm⟩
set_option maxRecDepth 10000 in
theorem open_mail {r : Reach} {b : Nat} {v : Value} {d : DataW H} {p : List MemPlace} (hv : Value.okWide Tryz.prog w r b 27 v) (h : DataW.Trod enc Tryz.prog w base spare held 27 v d p) : ∃ m : Ml, MlIn w v m ∧ NumsOk m := by
  obtain ⟨cs, rfl, hsz⟩ := okWide_struct Tryz.underlying27 hv
  rw [show Tryz.prog.cellsOf 27 = 6 by kernel_rfl] at hsz
  obtain ⟨l⟩ := cs
  obtain ⟨fuel, hf⟩ := h
  simp only [Value.cells] at hf
  exact open_ml (by simpa using hsz) hf
end
end Go.Proofs.YtpkaoiadjffjiaaGreat
namespace Go.Proofs.YtpkaoiadjffjiaaGreat
set_option linter.unusedSimpArgs false
open Go.RowKit
attribute [local go_sem ↓] Go.wp_at_zero Go.wp_at_succ

set_option maxRecDepth 100000 in
set_option maxHeartbeats 16000000 in
theorem imageApart_any (v1 v2 : Value) (W : World) (h1 : ∃ m, MlIn W v1 m ∧ NumsOk m) (h2 : ∃ m, MlIn W v2 m ∧ NumsOk m) : Calls Tryz.prog 4 #[v1, v2] W fun e w' => e = .returned (.bool true) ∧ Below W.heap.size W w' := by
  obtain ⟨m1, hm1, hn1⟩ := h1
  obtain ⟨m2, hm2, hn2⟩ := h2
  obtain ⟨ab1, cb1, nb1, ah1, ch1, as1, cs1, rfl⟩ := hm1.six
  obtain ⟨ab2, cb2, nb2, ah2, ch2, as2, cs2, rfl⟩ := hm2.six
  have hz1 := ((Zoo.nil W).newBox #[.slice ab1 nb1 cb1, .int .u64 m1.nv, .slice ah1 m1.homes.length ch1, .slice as1 m1.seats.length cs1, .int .u64 m1.ns, .int .u64 m1.sweeps] 27).newBox #[.slice ab2 nb2 cb2, .int .u64 m2.nv, .slice ah2 m2.homes.length ch2, .slice as2 m2.seats.length cs2, .int .u64 m2.ns, .int .u64 m2.sweeps] 27
  have hmI1 : Hid (∀ wr, Below W.heap.size W wr → MlIn wr (.agg #[.slice ab1 nb1 cb1, .int .u64 m1.nv, .slice ah1 m1.homes.length ch1, .slice as1 m1.seats.length cs1, .int .u64 m1.ns, .int .u64 m1.sweeps]) m1) := Lib.hid (fun wr h => hm1.below h)
  have hmI2 : Hid (∀ wr, Below W.heap.size W wr → MlIn wr (.agg #[.slice ab2 nb2 cb2, .int .u64 m2.nv, .slice ah2 m2.homes.length ch2, .slice as2 m2.seats.length cs2, .int .u64 m2.ns, .int .u64 m2.sweeps]) m2) := Lib.hid (fun wr h => hm2.below h)
  rw [show (W.alloc (.cells #[.slice ab1 nb1 cb1, .int .u64 m1.nv, .slice ah1 m1.homes.length ch1, .slice as1 m1.seats.length cs1, .int .u64 m1.ns, .int .u64 m1.sweeps] 27)).heap.size = W.heap.size + 1 from by simp] at hz1
  have hW0 : Hid (∀ wr, Below W.heap.size W wr → Below W.heap.size W wr) := Lib.hid (fun _ h => h)
  generalize hMB : W.heap.size = MB at hz1 hmI1 hmI2 hW0 ⊢
  generalize hWa : (W.alloc (.cells #[.slice ab1 nb1 cb1, .int .u64 m1.nv, .slice ah1 m1.homes.length ch1, .slice as1 m1.seats.length cs1, .int .u64 m1.ns, .int .u64 m1.sweeps] 27)).alloc (.cells #[.slice ab2 nb2 cb2, .int .u64 m2.nv, .slice ah2 m2.homes.length ch2, .slice as2 m2.seats.length cs2, .int .u64 m2.ns, .int .u64 m2.sweeps] 27) = Wa at hz1
  generalize hMC : MB + 1 = MC at hz1
  have hb2 := (hz1.box 0 rfl).1
  have hb1 := (hz1.box 1 rfl).1
  have hbA : Below MB W Wa := hMB ▸ hz1.bel
  have hS : MB ≤ Wa.heap.size := hMB ▸ hbA.size
  have hq : Hid (∀ wr, Below Wa.heap.size Wa wr → wr.cell? ⟨MB, 0, none⟩ = some (.slice ab1 nb1 cb1) ∧ wr.cell? ⟨MB, 1, none⟩ = some (.int .u64 m1.nv) ∧ wr.cell? ⟨MB, 2, none⟩ = some (.slice ah1 m1.homes.length ch1) ∧ wr.cell? ⟨MB, 3, none⟩ = some (.slice as1 m1.seats.length cs1) ∧ wr.cell? ⟨MB, 4, none⟩ = some (.int .u64 m1.ns) ∧ wr.cell? ⟨MB, 5, none⟩ = some (.int .u64 m1.sweeps) ∧ wr.cell? ⟨MC, 0, none⟩ = some (.slice ab2 nb2 cb2) ∧ wr.cell? ⟨MC, 1, none⟩ = some (.int .u64 m2.nv) ∧ wr.cell? ⟨MC, 2, none⟩ = some (.slice ah2 m2.homes.length ch2) ∧ wr.cell? ⟨MC, 3, none⟩ = some (.slice as2 m2.seats.length cs2) ∧ wr.cell? ⟨MC, 4, none⟩ = some (.int .u64 m2.ns) ∧ wr.cell? ⟨MC, 5, none⟩ = some (.int .u64 m2.sweeps)) := Lib.hid (fun wr h => by
    have k1 := iheap_below hb1 h
    have k2 := iheap_below hb2 h
    exact ⟨box_cell k1 0, box_cell k1 1, box_cell k1 2, box_cell k1 3, box_cell k1 4, box_cell k1 5, box_cell k2 0, box_cell k2 1, box_cell k2 2, box_cell k2 3, box_cell k2 4, box_cell k2 5⟩)
  have hbW : Hid (∀ wr, Below Wa.heap.size Wa wr → Below MB W wr) := Lib.hid (fun wr h => hbA.trans (h.mono hS))
  have hJ1 : Hid (∀ wr, Below Wa.heap.size Wa wr → MlIn wr (.agg #[.slice ab1 nb1 cb1, .int .u64 m1.nv, .slice ah1 m1.homes.length ch1, .slice as1 m1.seats.length cs1, .int .u64 m1.ns, .int .u64 m1.sweeps]) m1) := Lib.hid (fun wr h => hmI1.out wr (hbW.out wr h))
  have hJ2 : Hid (∀ wr, Below Wa.heap.size Wa wr → MlIn wr (.agg #[.slice ab2 nb2 cb2, .int .u64 m2.nv, .slice ah2 m2.homes.length ch2, .slice as2 m2.seats.length cs2, .int .u64 m2.ns, .int .u64 m2.sweeps]) m2) := Lib.hid (fun wr h => hmI2.out wr (hbW.out wr h))
  replace hn1 := Lib.hid hn1
  replace hn2 := Lib.hid hn2
  clear hm1 hm2 hz1 hb1 hb2 hbA hS hmI1 hmI2 hW0
  go_enter Tryz.func4, Tryz.ntmps4
  go_wp2_with fail
  refine (aliveI_any _).mono ?_
  rintro e w1 ⟨rfl, hb1⟩
  have hd1 : Below Wa.heap.size Wa w1 := hb1.out
  clear hb1
  obtain ⟨p0, p1, p2, p3, p4, p5, q0, q1, q2, q3, q4, q5⟩ := hq.out _ hd1
  go_wp2_with fail
  refine (lightM_any _ (hJ1.out _ hd1)).mono ?_
  rintro e w2 ⟨rfl, hb2⟩
  have hd2 : Below Wa.heap.size Wa w2 := hd1.trans (hb2.out.mono hd1.size)
  clear p0 p1 p2 p3 p4 p5 q0 q1 q2 q3 q4 q5 hb2
  obtain ⟨p0, p1, p2, p3, p4, p5, q0, q1, q2, q3, q4, q5⟩ := hq.out _ hd2
  cases hL1 : lightM m1 with
  | false =>
    clear hL1
    go_wp2_with fail
    refine (aliveI_any _).mono ?_
    rintro e w3 ⟨rfl, hb3⟩
    have hbF := Lib.hid (hbW.out _ (hd2.trans (hb3.out.mono hd2.size)))
    go_wp2_with fail
    go_ret
    exact ⟨rfl, hbF.out⟩
  | true =>
    have hs1 := Lib.hid (light_sz hL1)
    clear hL1
    go_wp2_with fail
    refine (lightM_any _ (hJ2.out _ hd2)).mono ?_
    rintro e w3 ⟨rfl, hb3⟩
    have hd3 : Below Wa.heap.size Wa w3 := hd2.trans (hb3.out.mono hd2.size)
    clear p0 p1 p2 p3 p4 p5 q0 q1 q2 q3 q4 q5 hb3
    obtain ⟨p0, p1, p2, p3, p4, p5, q0, q1, q2, q3, q4, q5⟩ := hq.out _ hd3
    cases hL2 : lightM m2 with
    | false =>
      clear hL2
      go_wp2_with fail
      refine (aliveI_any _).mono ?_
      rintro e w4 ⟨rfl, hb4⟩
      have hbF := Lib.hid (hbW.out _ (hd3.trans (hb4.out.mono hd3.size)))
      go_wp2_with fail
      go_ret
      exact ⟨rfl, hbF.out⟩
    | true =>
      have hs2 := Lib.hid (light_sz hL2)
      clear hL2
      go_wp2_with fail
      refine (encode_any _ (hJ1.out _ hd3) hs1.out (fun _ => hn1.out)).mono ?_
      rintro e w4 ⟨u1, c1, rfl, ho1, hb4⟩
      have hd4 : Below Wa.heap.size Wa w4 := hd3.trans (hb4.out.mono hd3.size)
      clear p0 p1 p2 p3 p4 p5 q0 q1 q2 q3 q4 q5 hb4
      obtain ⟨p0, p1, p2, p3, p4, p5, q0, q1, q2, q3, q4, q5⟩ := hq.out _ hd4
      replace ho1 := Lib.hid ho1
      go_wp2_with fail
      refine (encode_any _ (hJ2.out _ hd4) hs2.out (fun _ => hn2.out)).mono ?_
      rintro e w5 ⟨u2, c2, rfl, ho2, hb5⟩
      have hd5 : Below Wa.heap.size Wa w5 := hd4.trans (hb5.out.mono hd4.size)
      clear p0 p1 p2 p3 p4 p5 q0 q1 q2 q3 q4 q5 hb5
      obtain ⟨p0, p1, p2, p3, p4, p5, q0, q1, q2, q3, q4, q5⟩ := hq.out _ hd5
      have hbF := Lib.hid (hbW.out _ hd5)
      rcases ho1.out with ⟨rfl, hr1, hu1⟩ | ⟨rfl, -⟩
      case inr =>
        clear ho1 ho2
        go_wp2_with fail
        go_ret
        exact ⟨rfl, hbF.out⟩
      rcases ho2 with ⟨rfl, hr2, hu2⟩ | ⟨rfl, -⟩
      case inr =>
        clear ho1 hr1 hu1
        go_wp2_with fail
        go_ret
        exact ⟨rfl, hbF.out⟩
      have hSm := Lib.hid (sameMl_any _ _ (hJ1.out _ hd5) (hJ2.out _ hd5) hs1.out hs2.out)
      by_cases he : m1 = m2
      · obtain rfl : u1 = u2 := u_lit (by rw [hu1, hu2, he])
        replace he := Lib.hid he
        clear ho1 hr1 hu1 hr2 hu2
        go_wp2_with fail
        refine hSm.out.mono ?_
        rintro e w6 ⟨B, rfl, hB, hb6⟩
        obtain rfl : B = true := hB.out.2 he.out
        have hbG := Lib.hid (hbW.out _ (hd5.trans (hb6.out.mono hd5.size)))
        go_wp2_with fail
        go_ret
        exact ⟨rfl, hbG.out⟩
      · have hne : u1 ≠ u2 := fun h => he ((image_apart hr1 hr2 hn1.out hn2.out).1 (by rw [← hu1, ← hu2, h]))
        have hne1 : decide (u1 = u2) = false := decide_eq_false hne
        have hne2 : (u1.toList == u2.toList) = false := str_ne hne
        replace hne := Lib.hid hne
        replace he := Lib.hid he
        clear ho1 hr1 hu1 hr2 hu2
        go_wp2_with fail
        refine hSm.out.mono ?_
        rintro e w6 ⟨B, rfl, hB, hb6⟩
        obtain rfl : B = false := by
          cases B with
          | false => rfl
          | true => exact absurd (hB.out.1 rfl) he.out
        have hbG := Lib.hid (hbW.out _ (hd5.trans (hb6.out.mono hd5.size)))
        go_wp2_with fail
        go_ret
        exact ⟨rfl, hbG.out⟩
end Go.Proofs.YtpkaoiadjffjiaaGreat
