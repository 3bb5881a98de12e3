/- mail.Find: walked. -/
import Derived.Test.YtcnebfmlelcliaaB05
namespace Go.Proofs.Ytcnebfmlelcliaa
set_option linter.unusedSimpArgs false
open Go.RowKit

def bx0 : BxV := ⟨⟨#[]⟩, 0, 0, 0, [], none, 0⟩
/-- the mailbox of a name, or none -/
def findM (m : Ml) (name : ByteArray) : Option Bx := m.boxes.find? (fun x => x.name.toList == name.toList)
def FindRet (W : World) (m : Ml) (name : ByteArray) (e : Ending) (w' : World) : Prop := ∃ z : BxV, e = .returned (.tuple #[bxAgg z, .bool (findM m name).isSome]) ∧ Hid (z.b = (findM m name).getD bx0.b) ∧ Hid (LtsIn w' z.v z.rows) ∧ Hid (Below W.heap.size W w')
theorem findIdx_find {α : Type} (p : α → Bool) (l : List α) : (idxI p l = -1 ∧ l.find? p = none) ∨ ∃ (i : Nat) (hi : i < l.length), idxI p l = (i : Int) ∧ l.find? p = some l[i] := by
  unfold idxI
  cases h : l.findIdx? p with
  | none => exact .inl ⟨rfl, List.find?_eq_none.2 (fun x hx => by rw [List.findIdx?_eq_none_iff.1 h x hx]; simp)⟩
  | some i =>
    obtain ⟨hi, h1, h2⟩ := List.findIdx?_eq_some_iff_getElem.1 h
    refine .inr ⟨i, hi, rfl, ?_⟩
    rw [List.find?_eq_some_iff_getElem]
    exact ⟨h1, i, hi, rfl, fun j hj => by have := h2 j hj; simpa using this⟩
/-- two results, the first in a block of its own -/
theorem results_cell_tmp_row {fn : Func} {p u : Tmp} {ty t : TypeId} (h : fn.results = #[.cell p ty, .tmp u]) (tmps : Array Value) (w : World) (B : Nat) (C : List Value) (hp : tmps.getD p undef = .pointer (some ⟨B, 0, none⟩)) (hb : w.heap[B]? = some (.cells C.toArray t (0, 0))) (hagg : ∀ w, (isAgg ty).run Try.prog w = .ok true w) (hsz : ∀ w, (Go.sizeOf ty).run Try.prog w = .ok C.length w) : (results fn tmps).run Try.prog w = .ok (.tuple #[.agg C.toArray, tmps.getD u undef]) w := by
  rw [results_cell_tmp h, hp]
  have := run_loadCells_list (P := Try.prog) w ⟨B, 0, none⟩ C (fun j v hj => by rw [Addr.add_lit, Nat.zero_add, box_cell hb j]; simpa using hj)
  simp [asAddr, loadVar, hagg, hsz, this, Result.andThen]
set_option maxRecDepth 100000 in
set_option maxHeartbeats 8000000 in
theorem find_any (v : Value) (m : Ml) (W : World) (hin : MlIn W v m) (hs : Sized1 m) (name : ByteArray) :
    Calls Try.prog 39 #[v, .string name] W (FindRet W m name) := by
  obtain ⟨vb, vh, vs, bs, rfl, hbs, hib, hih, his⟩ := hin
  have hib0 := Lib.hid (fun (W' : World) (h : Below W.heap.size W W') => hib.below h)
  have hlb : bs.length ≤ 1000 := by have := hs.boxes; rw [← hbs, List.length_map] at this; exact this
  obtain ⟨ab, cb, rfl, -⟩ := hib.1
  obtain ⟨ah, ch, rfl, -⟩ := hih
  obtain ⟨as_, cs, rfl, -⟩ := his
  have hz := ((Zoo.nil W).newBox [.slice ab bs.length cb, .int .u64 m.nv, .slice ah m.homes.length ch, .slice as_ m.seats.length cs, .int .u64 m.ns, .int .u64 m.sweeps].toArray 47).newBox (bxCells bx0).toArray 28
  have hs1 : (W.alloc (.cells [.slice ab bs.length cb, .int .u64 m.nv, .slice ah m.homes.length ch, .slice as_ m.seats.length cs, .int .u64 m.ns, .int .u64 m.sweeps].toArray 47)).heap.size = W.heap.size + 1 := by simp
  rw [hs1] at hz
  have hat := Lib.hid (at_any ab ah as_ cb m.homes.length ch m.seats.length cs m.nv m.ns m.sweeps bs name (hib0.out _ hz.bel).1 (by omega))
  unfold bxCells bx0 BxV.v at hz hat
  dsimp only [List.length_nil] at hz hat
  replace hz := Lib.hid hz
  replace hbs := Lib.hid hbs
  replace hs := Lib.hid hs
  clear hib hs1
  unfold mlVal
  go_enter Try.func39, Try.ntmps39
  go_wp2_with fail
  refine hat.out.mono ?_
  rintro e w2 ⟨rfl, hb2⟩
  have hz2 := hz.out.below hb2.out
  have hfm : findM m name = (bs.find? (fun x => x.name.toList == name.toList)).map BxV.b := by
    unfold findM
    rw [← hbs.out, List.find?_map]; rfl
  unfold atB
  rcases findIdx_find (fun x : BxV => x.name.toList == name.toList) bs with ⟨e1, e2⟩ | ⟨i, hi, e1, e2⟩
  · rw [e1]
    rw [e2] at hfm
    have hfm2 : Hid (findM m name = none) := Lib.hid hfm
    obtain ⟨hb, -⟩ := hz2.box 0 rfl
    have d0 : w2.cell? ⟨W.heap.size + 1, 0, none⟩ = some (.string ⟨#[]⟩) := box_cell hb 0
    have d1 : w2.cell? ⟨W.heap.size + 1, 1, none⟩ = some (.int .u64 0) := box_cell hb 1
    have d2 : w2.cell? ⟨W.heap.size + 1, 2, none⟩ = some (.int .u64 0) := box_cell hb 2
    have d3 : w2.cell? ⟨W.heap.size + 1, 3, none⟩ = some (.int .u64 0) := box_cell hb 3
    have d4 : w2.cell? ⟨W.heap.size + 1, 4, none⟩ = some (.slice none 0 0) := box_cell hb 4
    have f0 := box_free hb
    have hz5 := ((((hz2.setBox 0 rfl 0 (.string ⟨#[]⟩)).setBox 0 rfl 1 (.int .u64 0)).setBox 0 rfl 2 (.int .u64 0)).setBox 0 rfl 3 (.int .u64 0)).setBox 0 rfl 4 (.slice none 0 0)
    obtain ⟨hbz, -⟩ := hz5.box 0 rfl
    replace hbz := Lib.hid hbz
    have hbel := Lib.hid hz5.bel
    clear hz5 hz2 hb hfm e1 e2 hat hb2
    go_wp2_with fail
    refine bodyPost_ret (results_cell_tmp_row rfl _ _ _ (bxCells bx0) rfl hbz.out Try.isAgg28 Try.sizeOf28) rfl ?_
    exact ⟨bx0, by rw [hfm2.out]; rfl, Lib.hid (by rw [hfm2.out]; rfl), Lib.hid ⟨(RT.Own.nil ltT _).rd, fun z hz => by cases hz⟩, hbel⟩
  · rw [e1]
    rw [e2] at hfm
    have hfm2 : Hid (findM m name = some bs[i].b) := Lib.hid hfm
    obtain ⟨hbm, -⟩ := hz2.box 1 rfl
    have m0 : w2.cell? ⟨W.heap.size, 0, none⟩ = some (.slice ab bs.length cb) := box_cell hbm 0
    have hib2 := hib0.out _ hz2.bel
    obtain ⟨b, o, cap, hv, -, hblt, hcells⟩ := bxT.rd_cells hib2.1 hi
    injection hv with hv1 hv2 hv3
    subst hv1
    have hcl := Lib.hid (cloneBox_any bs[i] w2 (hib2.2 _ (List.getElem_mem hi)) (by have := hs.out.letters _ (by rw [← hbs.out]; exact List.mem_map_of_mem (List.getElem_mem hi)); have h : bs[i].b.letters.length = bs[i].rows.length := List.length_map ..; omega) (fun z hz => by have := hs.out.flags bs[i].b (by rw [← hbs.out]; exact List.mem_map_of_mem (List.getElem_mem hi)) z.x (List.mem_map_of_mem hz); omega))
    generalize bs[i] = x at *
    have r0 := hcells 0 _ rfl
    have r1 := hcells 1 _ rfl
    have r2 := hcells 2 _ rfl
    have r3 := hcells 3 _ rfl
    have r4 := hcells 4 _ rfl
    replace r0 : w2.cell? ⟨b, o + i * 5, none⟩ = some (.string x.name) := r0
    replace r1 : w2.cell? ⟨b, o + i * 5 + 1, none⟩ = some (.int .u64 x.validity) := r1
    replace r2 : w2.cell? ⟨b, o + i * 5 + 2, none⟩ = some (.int .u64 x.next) := r2
    replace r3 : w2.cell? ⟨b, o + i * 5 + 3, none⟩ = some (.int .u64 x.high) := r3
    replace r4 : w2.cell? ⟨b, o + i * 5 + 4, none⟩ = some (.slice x.a x.rows.length x.c) := r4
    replace hcl : Hid (Calls Try.prog 53 #[.agg #[.string x.name, .int .u64 x.validity, .int .u64 x.next, .int .u64 x.high, .slice x.a x.rows.length x.c]] w2 (CloneBoxRet w2 x)) := hcl
    have hi0 : (0 : Int) ≤ (i : Int) := by omega
    have hil2 : (i : Int) < (bs.length : Int) := by omega
    replace hz2 := Lib.hid hz2
    clear e1 e2 hfm hat hb2 hcells hbm hib2 hv2 hv3
    go_wp2_with fail
    refine hcl.out.mono ?_
    rintro e w3 ⟨z, S, he, hzb, hz3⟩
    unfold bxAgg bxCells BxV.v at he
    subst he
    have hz4 := hz2.out.join hz3.out
    obtain ⟨hb, -⟩ := hz4.box 2 rfl
    have d0 : w3.cell? ⟨W.heap.size + 1, 0, none⟩ = some (.string ⟨#[]⟩) := box_cell hb 0
    have d1 : w3.cell? ⟨W.heap.size + 1, 1, none⟩ = some (.int .u64 0) := box_cell hb 1
    have d2 : w3.cell? ⟨W.heap.size + 1, 2, none⟩ = some (.int .u64 0) := box_cell hb 2
    have d3 : w3.cell? ⟨W.heap.size + 1, 3, none⟩ = some (.int .u64 0) := box_cell hb 3
    have d4 : w3.cell? ⟨W.heap.size + 1, 4, none⟩ = some (.slice none 0 0) := box_cell hb 4
    have f0 := box_free hb
    have hz5 := ((((hz4.setBox 2 rfl 0 (.string z.name)).setBox 2 rfl 1 (.int .u64 z.validity)).setBox 2 rfl 2 (.int .u64 z.next)).setBox 2 rfl 3 (.int .u64 z.high)).setBox 2 rfl 4 (.slice z.a z.rows.length z.c)
    obtain ⟨hbz, -⟩ := hz5.box 2 rfl
    have hlt := Lib.hid (show LtsIn _ z.v z.rows from ⟨(hz5.own 0 rfl).rd, hz5.ltsOk 1 rfl hzb.out.2⟩)
    replace hbz := Lib.hid hbz
    have hbel := Lib.hid hz5.bel
    have hzb1 := Lib.hid hzb.out.1
    clear hz5 hz4 hb hcl hz3 hz2 hzb r0 r1 r2 r3 r4
    go_wp2_with fail
    refine bodyPost_ret (results_cell_tmp_row rfl _ _ _ (bxCells z) rfl hbz.out Try.isAgg28 Try.sizeOf28) rfl ?_
    exact ⟨z, by rw [hfm2.out]; rfl, Lib.hid (by rw [hfm2.out]; exact hzb1.out), hlt, hbel⟩
end Go.Proofs.Ytcnebfmlelcliaa
