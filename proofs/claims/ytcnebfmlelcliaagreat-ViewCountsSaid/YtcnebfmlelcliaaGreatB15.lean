/- mail.Find: walked. open: walked. Apply: what it computes, and its parts. -/
import Derived.Test.YtcnebfmlelcliaaGreatB14
import Derived.Laws.ResultCell
namespace Go.Proofs.YtcnebfmlelcliaaGreat
set_option linter.unusedSimpArgs false
open Go.RowKit

def bx0 : BxV := ⟨⟨#[]⟩, 0, 0, 0, [], none, 0⟩
/-- the mailbox of a name, or none -/
def findM (m : Ml) (name : ByteArray) : Option Bx := m.boxes.find? (fun x => x.name.toList == name.toList)
def FindRet (W : World) (m : Ml) (name : ByteArray) (e : Ending) (w' : World) : Prop := ∃ z : BxV, e = .returned (.tuple #[bxAgg z, .bool (findM m name).isSome]) ∧ Hid (z.b = (findM m name).getD bx0.b) ∧ Hid (LtsIn w' z.v z.rows) ∧ Hid (Below W.heap.size W w')
theorem findIdx_find {α : Type} (p : α → Bool) (l : List α) : (idxI p l = -1 ∧ l.find? p = none) ∨ ∃ (i : Nat) (hi : i < l.length), idxI p l = (i : Int) ∧ l.find? p = some l[i] := by
  unfold idxI
  cases h : l.findIdx? p with
  | none => exact .inl ⟨rfl, List.find?_eq_none.2 (fun x hx => by rw [List.findIdx?_eq_none_iff.1 h x hx]; simp)⟩
  | some i =>
    obtain ⟨hi, h1, h2⟩ := List.findIdx?_eq_some_iff_getElem.1 h
    refine .inr ⟨i, hi, rfl, ?_⟩
    rw [List.find?_eq_some_iff_getElem]
    exact ⟨h1, i, hi, rfl, fun j hj => by have := h2 j hj; simpa using this⟩
/-- two results, the first in a block of its own -/
theorem results_cell_tmp_row {fn : Func} {p u : Tmp} {ty t : TypeId} (h : fn.results = #[.cell p ty, .tmp u]) (tmps : Array Value) (w : World) (B : Nat) (C : List Value) (hp : tmps.getD p undef = .pointer (some ⟨B, 0, none⟩)) (hb : w.heap[B]? = some (.cells C.toArray t (0, 0))) (hagg : ∀ w, (isAgg ty).run Tryz.prog w = .ok true w) (hsz : ∀ w, (Go.sizeOf ty).run Tryz.prog w = .ok C.length w) : (results fn tmps).run Tryz.prog w = .ok (.tuple #[.agg C.toArray, tmps.getD u undef]) w := by
  rw [results_cell_tmp h, hp]
  have := run_loadCells_list (P := Tryz.prog) w ⟨B, 0, none⟩ C (fun j v hj => by rw [Addr.add_lit, Nat.zero_add, box_cell hb j]; simpa using hj)
  simp [asAddr, loadVar, hagg, hsz, this, Result.andThen]
set_option maxRecDepth 100000 in
set_option maxHeartbeats 8000000 in
theorem find_any (v : Value) (m : Ml) (W : World) (hin : MlIn W v m) (hs : Sized1 m) (name : ByteArray) :
    Calls Tryz.prog 21 #[v, .string name] W (FindRet W m name) := by
  obtain ⟨vb, vh, vs, bs, rfl, hbs, hib, hih, his⟩ := hin
  have hib0 := Lib.hid (fun (W' : World) (h : Below W.heap.size W W') => hib.below h)
  have hlb : bs.length ≤ 1000 := by have := hs.boxes; rw [← hbs, List.length_map] at this; exact this
  obtain ⟨ab, cb, rfl, -⟩ := hib.1
  obtain ⟨ah, ch, rfl, -⟩ := hih
  obtain ⟨as_, cs, rfl, -⟩ := his
  have hz := ((Zoo.nil W).newBox [.slice ab bs.length cb, .int .u64 m.nv, .slice ah m.homes.length ch, .slice as_ m.seats.length cs, .int .u64 m.ns, .int .u64 m.sweeps].toArray 27).newBox (bxCells bx0).toArray 33
  have hs1 : (W.alloc (.cells [.slice ab bs.length cb, .int .u64 m.nv, .slice ah m.homes.length ch, .slice as_ m.seats.length cs, .int .u64 m.ns, .int .u64 m.sweeps].toArray 27)).heap.size = W.heap.size + 1 := by simp
  rw [hs1] at hz
  have hat := Lib.hid (at_any ab ah as_ cb m.homes.length ch m.seats.length cs m.nv m.ns m.sweeps bs name (hib0.out _ hz.bel).1 (by omega))
  unfold bxCells bx0 BxV.v at hz hat
  dsimp only [List.length_nil] at hz hat
  replace hz := Lib.hid hz
  replace hbs := Lib.hid hbs
  replace hs := Lib.hid hs
  clear hib hs1
  unfold mlVal
  go_enter Tryz.func21, Tryz.ntmps21
  go_wp2_with fail
  refine hat.out.mono ?_
  rintro e w2 ⟨rfl, hb2⟩
  have hz2 := hz.out.below hb2.out
  have hfm : findM m name = (bs.find? (fun x => x.name.toList == name.toList)).map BxV.b := by
    unfold findM
    rw [← hbs.out, List.find?_map]; rfl
  unfold atB
  rcases findIdx_find (fun x : BxV => x.name.toList == name.toList) bs with ⟨e1, e2⟩ | ⟨i, hi, e1, e2⟩
  · rw [e1]
    rw [e2] at hfm
    have hfm2 : Hid (findM m name = none) := Lib.hid hfm
    obtain ⟨hb, -⟩ := hz2.box 0 rfl
    have d0 : w2.cell? ⟨W.heap.size + 1, 0, none⟩ = some (.string ⟨#[]⟩) := box_cell hb 0
    have d1 : w2.cell? ⟨W.heap.size + 1, 1, none⟩ = some (.int .u64 0) := box_cell hb 1
    have d2 : w2.cell? ⟨W.heap.size + 1, 2, none⟩ = some (.int .u64 0) := box_cell hb 2
    have d3 : w2.cell? ⟨W.heap.size + 1, 3, none⟩ = some (.int .u64 0) := box_cell hb 3
    have d4 : w2.cell? ⟨W.heap.size + 1, 4, none⟩ = some (.slice none 0 0) := box_cell hb 4
    have f0 := box_free hb
    have hz5 := ((((hz2.setBox 0 rfl 0 (.string ⟨#[]⟩)).setBox 0 rfl 1 (.int .u64 0)).setBox 0 rfl 2 (.int .u64 0)).setBox 0 rfl 3 (.int .u64 0)).setBox 0 rfl 4 (.slice none 0 0)
    obtain ⟨hbz, -⟩ := hz5.box 0 rfl
    replace hbz := Lib.hid hbz
    have hbel := Lib.hid hz5.bel
    clear hz5 hz2 hb hfm e1 e2 hat hb2
    go_wp2_with fail
    refine bodyPost_ret (results_cell_tmp_row rfl _ _ _ (bxCells bx0) rfl hbz.out Tryz.isAgg33 Tryz.sizeOf33) rfl ?_
    exact ⟨bx0, by rw [hfm2.out]; rfl, Lib.hid (by rw [hfm2.out]; rfl), Lib.hid ⟨(RT.Own.nil ltT _).rd, fun z hz => by cases hz⟩, hbel⟩
  · rw [e1]
    rw [e2] at hfm
    have hfm2 : Hid (findM m name = some bs[i].b) := Lib.hid hfm
    obtain ⟨hbm, -⟩ := hz2.box 1 rfl
    have m0 : w2.cell? ⟨W.heap.size, 0, none⟩ = some (.slice ab bs.length cb) := box_cell hbm 0
    have hib2 := hib0.out _ hz2.bel
    obtain ⟨b, o, cap, hv, -, hblt, hcells⟩ := bxT.rd_cells hib2.1 hi
    injection hv with hv1 hv2 hv3
    subst hv1
    have hcl := Lib.hid (cloneBox_any bs[i] w2 (hib2.2 _ (List.getElem_mem hi)) (by have := hs.out.letters _ (by rw [← hbs.out]; exact List.mem_map_of_mem (List.getElem_mem hi)); have h : bs[i].b.letters.length = bs[i].rows.length := List.length_map ..; omega) (fun z hz => by have := hs.out.flags bs[i].b (by rw [← hbs.out]; exact List.mem_map_of_mem (List.getElem_mem hi)) z.x (List.mem_map_of_mem hz); omega))
    generalize bs[i] = x at *
    have r0 := hcells 0 _ rfl
    have r1 := hcells 1 _ rfl
    have r2 := hcells 2 _ rfl
    have r3 := hcells 3 _ rfl
    have r4 := hcells 4 _ rfl
    replace r0 : w2.cell? ⟨b, o + i * 5, none⟩ = some (.string x.name) := r0
    replace r1 : w2.cell? ⟨b, o + i * 5 + 1, none⟩ = some (.int .u64 x.validity) := r1
    replace r2 : w2.cell? ⟨b, o + i * 5 + 2, none⟩ = some (.int .u64 x.next) := r2
    replace r3 : w2.cell? ⟨b, o + i * 5 + 3, none⟩ = some (.int .u64 x.high) := r3
    replace r4 : w2.cell? ⟨b, o + i * 5 + 4, none⟩ = some (.slice x.a x.rows.length x.c) := r4
    replace hcl : Hid (Calls Tryz.prog 34 #[.agg #[.string x.name, .int .u64 x.validity, .int .u64 x.next, .int .u64 x.high, .slice x.a x.rows.length x.c]] w2 (CloneBoxRet w2 x)) := hcl
    have hi0 : (0 : Int) ≤ (i : Int) := by omega
    have hil2 : (i : Int) < (bs.length : Int) := by omega
    replace hz2 := Lib.hid hz2
    clear e1 e2 hfm hat hb2 hcells hbm hib2 hv2 hv3
    go_wp2_with fail
    refine hcl.out.mono ?_
    rintro e w3 ⟨z, S, he, hzb, hz3⟩
    unfold bxAgg bxCells BxV.v at he
    subst he
    have hz4 := hz2.out.join hz3.out
    obtain ⟨hb, -⟩ := hz4.box 2 rfl
    have d0 : w3.cell? ⟨W.heap.size + 1, 0, none⟩ = some (.string ⟨#[]⟩) := box_cell hb 0
    have d1 : w3.cell? ⟨W.heap.size + 1, 1, none⟩ = some (.int .u64 0) := box_cell hb 1
    have d2 : w3.cell? ⟨W.heap.size + 1, 2, none⟩ = some (.int .u64 0) := box_cell hb 2
    have d3 : w3.cell? ⟨W.heap.size + 1, 3, none⟩ = some (.int .u64 0) := box_cell hb 3
    have d4 : w3.cell? ⟨W.heap.size + 1, 4, none⟩ = some (.slice none 0 0) := box_cell hb 4
    have f0 := box_free hb
    have hz5 := ((((hz4.setBox 2 rfl 0 (.string z.name)).setBox 2 rfl 1 (.int .u64 z.validity)).setBox 2 rfl 2 (.int .u64 z.next)).setBox 2 rfl 3 (.int .u64 z.high)).setBox 2 rfl 4 (.slice z.a z.rows.length z.c)
    obtain ⟨hbz, -⟩ := hz5.box 2 rfl
    have hlt := Lib.hid (show LtsIn _ z.v z.rows from ⟨(hz5.own 0 rfl).rd, hz5.ltsOk 1 rfl hzb.out.2⟩)
    replace hbz := Lib.hid hbz
    have hbel := Lib.hid hz5.bel
    have hzb1 := Lib.hid hzb.out.1
    clear hz5 hz4 hb hcl hz3 hz2 hzb r0 r1 r2 r3 r4
    go_wp2_with fail
    refine bodyPost_ret (results_cell_tmp_row rfl _ _ _ (bxCells z) rfl hbz.out Tryz.isAgg33 Tryz.sizeOf33) rfl ?_
    exact ⟨z, by rw [hfm2.out]; rfl, Lib.hid (by rw [hfm2.out]; exact hzb1.out), hlt, hbel⟩
end Go.Proofs.YtcnebfmlelcliaaGreat
namespace Go.Proofs.YtcnebfmlelcliaaGreat
set_option linter.unusedSimpArgs false
open Go.RowKit
attribute [local go_sem ↓] Go.wp_at_zero Go.wp_at_succ

def homeOf (m : Ml) (node : Int) : Hm := (m.homes.find? (fun x => x.node == node)).getD ⟨0, 0, 0⟩
def seatsO (m : Ml) (q : Rq) : List St := if (homeOf m q.node).life < q.life then m.seats.filter (fun x => !(x.node == q.node)) else m.seats
def openM (m : Ml) (q : Rq) (o : Oc) : Int × Ml × Oc :=
  if q.node < 1 ∨ 5 < q.node ∨ q.life = 0 ∨ q.try_ = 0 then (1, m, o)
  else if q.life < (homeOf m q.node).life then (14, m, o)
  else if (homeOf m q.node).life = q.life ∧ q.try_ ≤ (homeOf m q.node).try_ then
    match m.seats.find? (fun x => x.node == q.node && x.try_ == q.try_) with
    | none => (14, m, o)
    | some x => (0, m, { o with session := x.session })
  else if 16 ≤ (seatsO m q).length ∨ 4611686018427387904 ≤ m.ns then (7, m, o)
  else (0, settleM { m with seats := seatsO m q ++ [⟨m.ns, 0, q.node, q.life, q.try_⟩], ns := m.ns + 1 } (idxI (fun x => x.node == q.node) m.homes) ⟨q.node, q.life, q.try_⟩, { o with session := m.ns })
set_option maxHeartbeats 2000000 in
theorem open1_any {W : World} (x : St) (rb : Nat) (node : Int) (h1 : W.cell? ⟨rb, 3, none⟩ = some (.int .i64 node)) :
    Calls Tryz.prog 62 #[.agg (stT.enc x).toArray, .pointer (some ⟨rb, 0, none⟩)] W fun e w' => e = .returned (.bool (x.node == node)) ∧ Hid (Below W.heap.size W w') := by
  have l1 := World.block_lt_of_cell? _ _ h1
  dsimp only at l1
  have n1 : rb ≠ W.heap.size := by omega
  have hb := Lib.hid ((Below.refl _ W).alloc (Nat.le_refl _) (.cells (stCells x).toArray 100))
  unfold stCells at hb
  show Calls Tryz.prog 62 #[.agg #[.int .u64 x.session, .int .u64 x.last, .int .i64 x.node, .int .u64 x.life, .int .u64 x.try_], .pointer (some ⟨rb, 0, none⟩)] W _
  go_enter Tryz.func62, Tryz.ntmps62
  go_wp2_with fail
  go_ret
  exact ⟨rfl, hb⟩
/-- what a state must be that a node may open a seat of it -/
structure HomesOk (m : Ml) : Prop where
  sorted : m.homes.Pairwise (fun x y => x.node < y.node)
  small : ∀ x ∈ m.homes, 0 ≤ x.node ∧ x.node ≤ 1000000
def hm0L : List Value := [.int .i64 0, .int .u64 0, .int .u64 0]
set_option maxRecDepth 100000 in
set_option maxHeartbeats 16000000 in
theorem open_any {W0 W : World} {wb : Nat} {k : WkV} {m : Ml} {q : Rq} {y : RqV} {o : Oc} (hz : Zoo W0 W (workL wb k m q y o)) (hk : WkOk k m) (hlh : m.homes.length ≤ 100) (hls : m.seats.length ≤ 1000) (hh : HomesOk m) :
    Calls Tryz.prog 35 #[.pointer (some ⟨wb, 0, none⟩)] W (WkRet W0 wb q y (openM m q o)) := by
  obtain ⟨hbx, -⟩ := hz.box 0 rfl
  have hrq := Lib.hid (fun j v (hj : (rqCells q y)[j]? = some v) => work_rq hbx j v hj)
  have hz4 := hz.newBox (rqZ.toArray) 68
  unfold rqZ at hz4
  have hs4 := Lib.hid (hz4.boxSome (C := rqZ) 0 rfl)
  have hz5 : Hid (Zoo W0 _ (rqBox W.heap.size q y :: workL wb k m q y o)) := Lib.hid (hz4.fillBox (C := rqZ) 0 rfl (rqCells q y) rfl)
  replace hk := Lib.hid hk
  replace hh := Lib.hid hh
  clear hbx hz hz4
  go_enter Tryz.func35, Tryz.ntmps35
  go_wp2_with (first
    | refine wpList_load_cells rfl 68 (.tmp 10) rfl wb 6 (rqCells q y) (by rfl) Tryz.isAgg68 Tryz.sizeOf68 hrq.out ?_
    | (refine wpList_store_cells rfl 68 (.tmp 3) (.tmp 11) rfl W.heap.size 0 (rqCells q y) (by rfl) (by rfl) Tryz.sizeOf68 (rq_one q y) hs4.out.1 hs4.out.2 ?_; refine Hid.out ?_))
  refine Lib.hid ?_
  generalize ((W.alloc (.cells #[.int .i64 0, .int .u64 0, .int .u64 0, .int .i64 0, .int .u64 0, .int .u64 0, .string ⟨#[]⟩, .string ⟨#[]⟩, .int .u64 0, .slice none 0 0, .slice none 0 0, .int .i64 0, .bool false, .int .u64 0, .string ⟨#[]⟩, .int .u64 0, .int .u64 0] 68)).setCells W.heap.size 0 (rqCells q y)) = w1 at hz5 ⊢
  generalize W.heap.size = rb at hz5 ⊢
  have hz1 := hz5
  clear hrq hs4 hz5
  obtain ⟨hrb, -⟩ := hz1.out.box (B := rb) (C := (rqCells q y).toArray) (t := 68) 0 rfl
  have r3 : w1.cell? ⟨rb, 3, none⟩ = some (.int .i64 q.node) := box_cell hrb 3
  have r4 : w1.cell? ⟨rb, 4, none⟩ = some (.int .u64 q.life) := box_cell hrb 4
  have r5 : w1.cell? ⟨rb, 5, none⟩ = some (.int .u64 q.try_) := box_cell hrb 5
  clear hrb
  by_cases hn1 : q.node < 1
  · have hr : Hid (openM m q o = (1, m, o)) := Lib.hid (by unfold openM; rw [if_pos (.inl hn1)])
    have hzE := Lib.hid (hz1.out.tail)
    clear hz1
    go_wp2_with fail
    go_ret
    exact WkRet.of hr.out ⟨k, rfl, hk, hzE⟩
  by_cases hn5 : 5 < q.node
  · have hn1' : decide (q.node < 1) = false := decide_eq_false hn1
    have hr : Hid (openM m q o = (1, m, o)) := Lib.hid (by unfold openM; rw [if_pos (.inr (.inl hn5))])
    have hzE := Lib.hid (hz1.out.tail)
    clear hz1 hn1
    go_wp2_with fail
    go_ret
    exact WkRet.of hr.out ⟨k, rfl, hk, hzE⟩
  by_cases hli : q.life = 0
  · have hn1' : decide (q.node < 1) = false := decide_eq_false hn1
    have hn5' : decide (5 < q.node) = false := decide_eq_false hn5
    have hli' : ((q.life : Int) == 0) = true := beq_iff_eq.2 (by omega)
    have hr : Hid (openM m q o = (1, m, o)) := Lib.hid (by unfold openM; rw [if_pos (.inr (.inr (.inl hli)))])
    have hzE := Lib.hid (hz1.out.tail)
    clear hz1 hn1 hn5 hli
    go_wp2_with fail
    go_ret
    exact WkRet.of hr.out ⟨k, rfl, hk, hzE⟩
  by_cases htr : q.try_ = 0
  · have hn1' : decide (q.node < 1) = false := decide_eq_false hn1
    have hn5' : decide (5 < q.node) = false := decide_eq_false hn5
    have hli' : ((q.life : Int) == 0) = false := beq_eq_false_iff_ne.2 (by omega)
    have htr' : ((q.try_ : Int) == 0) = true := beq_iff_eq.2 (by omega)
    have hr : Hid (openM m q o = (1, m, o)) := Lib.hid (by unfold openM; rw [if_pos (.inr (.inr (.inr htr)))])
    have hzE := Lib.hid (hz1.out.tail)
    clear hz1 hn1 hn5 hli htr
    go_wp2_with fail
    go_ret
    exact WkRet.of hr.out ⟨k, rfl, hk, hzE⟩
  have hn1' : decide (q.node < 1) = false := decide_eq_false hn1
  have hn5' : decide (5 < q.node) = false := decide_eq_false hn5
  have hli' : ((q.life : Int) == 0) = false := beq_eq_false_iff_ne.2 (by omega)
  have htr' : ((q.try_ : Int) == 0) = false := beq_eq_false_iff_ne.2 (by omega)
  have hgood : Hid (¬ (q.node < 1 ∨ 5 < q.node ∨ q.life = 0 ∨ q.try_ = 0)) := Lib.hid (by omega)
  have hqn : 0 ≤ q.node ∧ q.node ≤ 1000000 := by omega
  obtain ⟨hqn0, hqn1⟩ := hqn
  have hz2 := hz1.out.newBox hm0L.toArray 108
  unfold hm0L at hz2
  have hzd := hz2.drew
  generalize hhbE : w1.heap.size = hb at hzd
  generalize hw2 : (w1.alloc (.cells #[.int .i64 0, .int .u64 0, .int .u64 0] 108)) = w2 at hzd
  obtain ⟨hbx, -⟩ := hzd.box 2 rfl
  have k0 : w2.drew.cell? ⟨wb, 0, none⟩ = some (.slice k.ab k.bs.length k.cb) := box_cell hbx 0
  have k1 : w2.drew.cell? ⟨wb, 1, none⟩ = some (.int .u64 m.nv) := box_cell hbx 1
  have k2 : w2.drew.cell? ⟨wb, 2, none⟩ = some (.slice k.ah m.homes.length k.ch) := box_cell hbx 2
  have k3 : w2.drew.cell? ⟨wb, 3, none⟩ = some (.slice k.as_ m.seats.length k.cs) := box_cell hbx 3
  have k4 : w2.drew.cell? ⟨wb, 4, none⟩ = some (.int .u64 m.ns) := box_cell hbx 4
  have k5 : w2.drew.cell? ⟨wb, 5, none⟩ = some (.int .u64 m.sweeps) := box_cell hbx 5
  obtain ⟨hrb, -⟩ := hzd.box (B := rb) (C := (rqCells q y).toArray) (t := 68) 1 rfl
  have d3 : w2.drew.cell? ⟨rb, 3, none⟩ = some (.int .i64 q.node) := box_cell hrb 3
  have hhome : Hid (Calls Tryz.prog 58 #[.agg #[.slice k.ab k.bs.length k.cb, .int .u64 m.nv, .slice k.ah m.homes.length k.ch, .slice k.as_ m.seats.length k.cs, .int .u64 m.ns, .int .u64 m.sweeps], .int .i64 q.node] w2.drew (IntBelow w2.drew (idxI (fun x => x.node == q.node) m.homes))) := Lib.hid (home_any k.ab k.ah k.as_ k.bs.length k.cb k.ch m.seats.length k.cs m.nv m.ns m.sweeps m.homes q.node (hzd.own 6 rfl).rd (by omega))
  replace hzd := Lib.hid hzd
  clear hbx hrb hn1 hn5 hli htr hz1 hz2
  go_wp2_with fail
  clear hhbE hw2 r3 r4 r5 hn1' hn5' hli' htr'
  go_cut [5] (fun v5 wx => v5 = .int .i64 (idxI (fun x : Hm => x.node == q.node) m.homes) ∧ Hid (Zoo W0 wx (boxT hb hm0L.toArray 108 :: rqBox rb q y :: workL wb k m q y o)))
  case first =>
    refine wp_region_hd (fun w' => w'.cell? ⟨wb, 0, none⟩ = some (.slice k.ab k.bs.length k.cb) ∧ w'.cell? ⟨wb, 1, none⟩ = some (.int .u64 m.nv) ∧ w'.cell? ⟨wb, 2, none⟩ = some (.slice k.ah m.homes.length k.ch) ∧ w'.cell? ⟨wb, 3, none⟩ = some (.slice k.as_ m.seats.length k.cs) ∧ w'.cell? ⟨wb, 4, none⟩ = some (.int .u64 m.ns) ∧ w'.cell? ⟨wb, 5, none⟩ = some (.int .u64 m.sweeps) ∧ w'.cell? ⟨rb, 3, none⟩ = some (.int .i64 q.node)) 7 1 (by kernel_rfl) rfl ⟨by kernel_rfl, by kernel_rfl, by kernel_rfl, by decide⟩ ⟨k0, k1, k2, k3, k4, k5, d3⟩ (fun hok hS0 => ?_)
    generalize w2.drew = Wd at *
    refine Hd.take (i := 0) (v := ?tv200) hok rfl (by kernel_rfl) (fun _ _ _ h => h) (Or.inl ⟨by rfl, ?ty200⟩) (by assumption) ?tr200
    case ty200 => (intro w hSw; (try dsimp only at hSw); go_simp; (try with_reducible rfl))
    try simp only [List.getElem_toArray, List.getElem_cons_succ, List.getElem_cons_zero, Act.put, List.setIfInBounds_toArray, List.set_cons_zero, List.set_cons_succ]
    refine Hd.take (i := 1) (v := ?tv201) hok rfl (by kernel_rfl) (fun _ _ _ h => h) (Or.inl ⟨by rfl, ?ty201⟩) (by assumption) ?tr201
    case ty201 => (intro w hSw; (try dsimp only at hSw); go_simp; (try with_reducible rfl))
    try simp only [List.getElem_toArray, List.getElem_cons_succ, List.getElem_cons_zero, Act.put, List.setIfInBounds_toArray, List.set_cons_zero, List.set_cons_succ]
    refine Hd.take (i := 2) (v := ?tv202) hok rfl (by kernel_rfl) (fun _ _ _ h => h) (Or.inl ⟨by rfl, ?ty202⟩) (by assumption) ?tr202
    case ty202 => (intro w hSw; (try dsimp only at hSw); go_simp; (try with_reducible rfl))
    try simp only [List.getElem_toArray, List.getElem_cons_succ, List.getElem_cons_zero, Act.put, List.setIfInBounds_toArray, List.set_cons_zero, List.set_cons_succ]
    refine Hd.take (i := 3) (v := ?tv203) hok rfl (by kernel_rfl) (fun _ _ _ h => h) (Or.inl ⟨by rfl, ?ty203⟩) (by assumption) ?tr203
    case ty203 => (intro w hSw; (try dsimp only at hSw); go_simp; (try with_reducible rfl))
    try simp only [List.getElem_toArray, List.getElem_cons_succ, List.getElem_cons_zero, Act.put, List.setIfInBounds_toArray, List.set_cons_zero, List.set_cons_succ]
    refine Hd.take (i := 4) (v := ?tv204) hok rfl (by kernel_rfl) (fun _ _ _ h => h) (Or.inl ⟨by rfl, ?ty204⟩) (by assumption) ?tr204
    case ty204 => (intro w hSw; (try dsimp only at hSw); go_simp; (try with_reducible rfl))
    try simp only [List.getElem_toArray, List.getElem_cons_succ, List.getElem_cons_zero, Act.put, List.setIfInBounds_toArray, List.set_cons_zero, List.set_cons_succ]
    refine Hd.take (i := 5) (v := ?tv205) hok rfl (by kernel_rfl) (fun _ _ _ h => h) (Or.inl ⟨by rfl, ?ty205⟩) (by assumption) ?tr205
    case ty205 => (intro w hSw; (try dsimp only at hSw); go_simp; (try with_reducible rfl))
    try simp only [List.getElem_toArray, List.getElem_cons_succ, List.getElem_cons_zero, Act.put, List.setIfInBounds_toArray, List.set_cons_zero, List.set_cons_succ]
    refine Hd.one (i := 6) rfl (by kernel_rfl) (fun K hK => ?_)
    go_simp
    refine hhome.out.mono ?_
    rintro e w3 ⟨rfl, hb3⟩
    dsimp only
    have hz3 := hzd.out.below hb3.out
    obtain ⟨hbx, -⟩ := hz3.box 2 rfl
    obtain ⟨hrb, -⟩ := hz3.box (B := rb) (C := (rqCells q y).toArray) (t := 68) 1 rfl
    clear k0 k1 k2 k3 k4 k5 d3
    have k0 : w3.cell? ⟨wb, 0, none⟩ = some (.slice k.ab k.bs.length k.cb) := box_cell hbx 0
    have k1 : w3.cell? ⟨wb, 1, none⟩ = some (.int .u64 m.nv) := box_cell hbx 1
    have k2 : w3.cell? ⟨wb, 2, none⟩ = some (.slice k.ah m.homes.length k.ch) := box_cell hbx 2
    have k3 : w3.cell? ⟨wb, 3, none⟩ = some (.slice k.as_ m.seats.length k.cs) := box_cell hbx 3
    have k4 : w3.cell? ⟨wb, 4, none⟩ = some (.int .u64 m.ns) := box_cell hbx 4
    have k5 : w3.cell? ⟨wb, 5, none⟩ = some (.int .u64 m.sweeps) := box_cell hbx 5
    have d3 : w3.cell? ⟨rb, 3, none⟩ = some (.int .i64 q.node) := box_cell hrb 3
    refine hK _ _ ⟨k0, k1, k2, k3, k4, k5, d3⟩ ?_
    clear hK K
    try simp only [List.getElem_toArray, List.getElem_cons_succ, List.getElem_cons_zero, Act.put, List.setIfInBounds_toArray, List.set_cons_zero, List.set_cons_succ]
    refine Hd.done (by kernel_rfl) ?_
    simp only [List.drop_succ_cons, List.drop_zero]
    replace hz3 := Lib.hid hz3
    clear hhome hzd hok hS0 hb3 hbx hrb k0 k1 k2 k3 k4 k5 d3
    go_wp2_with fail
    go_meet
    case rel => exact ⟨rfl, hz3⟩
  case rest =>
  clear hhome hzd k0 k1 k2 k3 k4 k5 d3
  obtain ⟨rfl, hz3⟩ := hcut
  generalize wc = w3 at *
  obtain ⟨atI, hatI⟩ : ∃ atI, idxI (fun x : Hm => x.node == q.node) m.homes = atI := ⟨_, rfl⟩
  rw [hatI]
  have hA : Hid (idxI (fun x : Hm => x.node == q.node) m.homes = atI) := Lib.hid hatI
  clear hatI
  go_upto_if 38 with fail
  go_cut [] (fun wx => Hid (Zoo W0 wx (boxT hb (hmCells (homeOf m q.node)).toArray 108 :: rqBox rb q y :: workL wb k m q y o)))
  case first =>
    have hz0 : Zoo W0 w3 (boxT hb hm0L.toArray 108 :: rqBox rb q y :: workL wb k m q y o) := hz3.out
    rcases findIdx_find (fun x : Hm => x.node == q.node) m.homes with ⟨e1, e2⟩ | ⟨i, hi, e1, e2⟩
    · rw [hA.out] at e1
      subst e1
      have hh0 : homeOf m q.node = ⟨0, 0, 0⟩ := by unfold homeOf; rw [e2]; rfl
      have hz4 : Hid (Zoo W0 w3 (boxT hb (hmCells (homeOf m q.node)).toArray 108 :: rqBox rb q y :: workL wb k m q y o)) := Lib.hid (by rw [hh0]; exact hz0)
      clear e2 hh0 hz0 hz3
      go_wp2_with fail
      go_meet
      case rel => exact hz4
    · rw [hA.out] at e1
      subst e1
      have hh0 : homeOf m q.node = m.homes[i] := by unfold homeOf; rw [e2]; rfl
      obtain ⟨hbx, -⟩ := hz0.box 2 rfl
      have k2 : w3.cell? ⟨wb, 2, none⟩ = some (.slice k.ah m.homes.length k.ch) := box_cell hbx 2
      obtain ⟨gh, cap, hv, -, -, hcells⟩ := (hz0.own 6 rfl).cells hi
      injection hv with hv1 hv2 hv3
      rw [hv1] at k2
      obtain ⟨h, hhx⟩ : ∃ h, m.homes[i] = h := ⟨_, rfl⟩
      rw [hhx] at hcells hh0
      have c0 : w3.cell? ⟨gh, i * 3, none⟩ = some (.int .i64 h.node) := hcells 0 (by decide)
      have c1 : w3.cell? ⟨gh, i * 3 + 1, none⟩ = some (.int .u64 h.life) := hcells 1 (by decide)
      have c2 : w3.cell? ⟨gh, i * 3 + 2, none⟩ = some (.int .u64 h.try_) := hcells 2 (by decide)
      obtain ⟨hbh, -⟩ := hz0.box 0 rfl
      have g0 : w3.cell? ⟨hb, 0, none⟩ = some (.int .i64 0) := box_cell hbh 0
      have g1 : w3.cell? ⟨hb, 1, none⟩ = some (.int .u64 0) := box_cell hbh 1
      have g2 : w3.cell? ⟨hb, 2, none⟩ = some (.int .u64 0) := box_cell hbh 2
      have f0 := box_free hbh 0
      have f1 := box_free hbh 1
      have f2 := box_free hbh 2
      have hz4 := ((hz0.setBox 0 rfl 0 (.int .i64 h.node)).setBox 0 rfl 1 (.int .u64 h.life)).setBox 0 rfl 2 (.int .u64 h.try_)
      replace hz4 : Hid (Zoo W0 (((w3.setCell ⟨hb, 0, none⟩ (.int .i64 h.node)).setCell ⟨hb, 1, none⟩ (.int .u64 h.life)).setCell ⟨hb, 2, none⟩ (.int .u64 h.try_)) (boxT hb (hmCells (homeOf m q.node)).toArray 108 :: rqBox rb q y :: workL wb k m q y o)) := Lib.hid (by rw [hh0]; exact hz4)
      have hi0 : (0 : Int) ≤ (i : Int) := by omega
      have hi1 : (i : Int) < (m.homes.length : Int) := by omega
      clear e2 hh0 hz0 hz3 hcells hbx hbh hv2 hv3 hhx hA
      go_wp2_with fail
      go_meet
      case rel => exact hz4
  case rest =>
  clear hz3
  replace hz := hcut
  clear hcut
  generalize wc = wH at *
  obtain ⟨h, hhe⟩ : ∃ h, homeOf m q.node = h := ⟨_, rfl⟩
  rw [hhe] at hz
  replace hhe := Lib.hid hhe
  obtain ⟨hbh, -⟩ := hz.out.box 0 rfl
  obtain ⟨hrb, -⟩ := hz.out.box (B := rb) (C := (rqCells q y).toArray) (t := 68) 1 rfl
  have h1 : wH.cell? ⟨hb, 1, none⟩ = some (.int .u64 h.life) := box_cell hbh 1
  have h2 : wH.cell? ⟨hb, 2, none⟩ = some (.int .u64 h.try_) := box_cell hbh 2
  have r3 : wH.cell? ⟨rb, 3, none⟩ = some (.int .i64 q.node) := box_cell hrb 3
  have r4 : wH.cell? ⟨rb, 4, none⟩ = some (.int .u64 q.life) := box_cell hrb 4
  have r5 : wH.cell? ⟨rb, 5, none⟩ = some (.int .u64 q.try_) := box_cell hrb 5
  clear hbh hrb
  by_cases hlo : q.life < h.life
  · have hlo' : (q.life : Int) < (h.life : Int) := by omega
    have hr : Hid (openM m q o = (14, m, o)) := Lib.hid (by unfold openM; rw [if_neg hgood.out, hhe.out, if_pos hlo])
    have hzE := Lib.hid (hz.out.tail.tail)
    clear hz hlo hgood
    go_wp2_with fail
    go_ret
    exact WkRet.of hr.out ⟨k, rfl, hk, hzE⟩
  have hlo' : decide ((q.life : Int) < (h.life : Int)) = false := decide_eq_false (by omega)
  go_upto_region 10 with fail
  go_cut [63] (fun v63 wx => v63 = .bool (decide (h.life = q.life) && decide (q.try_ ≤ h.try_)) ∧ wx = wH)
  case first =>
    by_cases he : h.life = q.life
    · have he' : ((h.life : Int) == (q.life : Int)) = true := beq_iff_eq.2 (by omega)
      replace he := Lib.hid he
      go_wp2_with fail
      go_meet
      case rel =>
        refine ⟨?_, rfl⟩
        congr 1
        rw [decide_eq_true he.out, Bool.true_and, decide_eq_decide]
        (try omega)
    · have he' : ((h.life : Int) == (q.life : Int)) = false := beq_eq_false_iff_ne.2 (by omega)
      replace he := Lib.hid he
      go_wp2_with fail
      go_meet
      case rel => exact ⟨by rw [decide_eq_false he.out]; rfl, rfl⟩
  case rest =>
  obtain ⟨rfl, rfl⟩ := hcut
  obtain ⟨c2, hc2⟩ : ∃ c2, (decide (h.life = q.life) && decide (q.try_ ≤ h.try_)) = c2 := ⟨_, rfl⟩
  rw [hc2]
  replace hc2 := Lib.hid hc2
  cases c2 with
  | true =>
    have hcc : Hid (h.life = q.life ∧ q.try_ ≤ h.try_) := Lib.hid (by simpa using hc2.out)
    have hzd := hz.out.drew
    obtain ⟨hbx, -⟩ := hzd.box 2 rfl
    have k0 : wc.drew.cell? ⟨wb, 0, none⟩ = some (.slice k.ab k.bs.length k.cb) := box_cell hbx 0
    have k1 : wc.drew.cell? ⟨wb, 1, none⟩ = some (.int .u64 m.nv) := box_cell hbx 1
    have k2 : wc.drew.cell? ⟨wb, 2, none⟩ = some (.slice k.ah m.homes.length k.ch) := box_cell hbx 2
    have k3 : wc.drew.cell? ⟨wb, 3, none⟩ = some (.slice k.as_ m.seats.length k.cs) := box_cell hbx 3
    have k4 : wc.drew.cell? ⟨wb, 4, none⟩ = some (.int .u64 m.ns) := box_cell hbx 4
    have k5 : wc.drew.cell? ⟨wb, 5, none⟩ = some (.int .u64 m.sweeps) := box_cell hbx 5
    obtain ⟨hrb, -⟩ := hzd.box (B := rb) (C := (rqCells q y).toArray) (t := 68) 1 rfl
    have d3 : wc.drew.cell? ⟨rb, 3, none⟩ = some (.int .i64 q.node) := box_cell hrb 3
    have d5 : wc.drew.cell? ⟨rb, 5, none⟩ = some (.int .u64 q.try_) := box_cell hrb 5
    have hop : Hid (Calls Tryz.prog 59 #[.agg #[.slice k.ab k.bs.length k.cb, .int .u64 m.nv, .slice k.ah m.homes.length k.ch, .slice k.as_ m.seats.length k.cs, .int .u64 m.ns, .int .u64 m.sweeps], .int .i64 q.node, .int .u64 q.try_] wc.drew (IntBelow wc.drew (idxI (fun x => x.node == q.node && x.try_ == q.try_) m.seats))) := Lib.hid (opened_any k.ab k.ah k.as_ k.bs.length k.cb m.homes.length k.ch k.cs m.nv m.ns m.sweeps m.seats q.node q.try_ (hzd.own 7 rfl).rd (by omega))
    clear hbx hrb h1 h2 r3 r4 r5 hlo'
    go_wp2_with fail
    refine wp_region_hd (fun w' => w'.cell? ⟨wb, 0, none⟩ = some (.slice k.ab k.bs.length k.cb) ∧ w'.cell? ⟨wb, 1, none⟩ = some (.int .u64 m.nv) ∧ w'.cell? ⟨wb, 2, none⟩ = some (.slice k.ah m.homes.length k.ch) ∧ w'.cell? ⟨wb, 3, none⟩ = some (.slice k.as_ m.seats.length k.cs) ∧ w'.cell? ⟨wb, 4, none⟩ = some (.int .u64 m.ns) ∧ w'.cell? ⟨wb, 5, none⟩ = some (.int .u64 m.sweeps) ∧ w'.cell? ⟨rb, 3, none⟩ = some (.int .i64 q.node) ∧ w'.cell? ⟨rb, 5, none⟩ = some (.int .u64 q.try_)) 9 1 (by kernel_rfl) rfl ⟨by kernel_rfl, by kernel_rfl, by kernel_rfl, by decide⟩ ⟨k0, k1, k2, k3, k4, k5, d3, d5⟩ (fun hok hS0 => ?_)
    generalize wc.drew = Wd at *
    refine Hd.take (i := 0) (v := ?tv206) hok rfl (by kernel_rfl) (fun _ _ _ h => h) (Or.inl ⟨by rfl, ?ty206⟩) (by assumption) ?tr206
    case ty206 => (intro w hSw; (try dsimp only at hSw); go_simp; (try with_reducible rfl))
    try simp only [List.getElem_toArray, List.getElem_cons_succ, List.getElem_cons_zero, Act.put, List.setIfInBounds_toArray, List.set_cons_zero, List.set_cons_succ]
    refine Hd.take (i := 1) (v := ?tv207) hok rfl (by kernel_rfl) (fun _ _ _ h => h) (Or.inl ⟨by rfl, ?ty207⟩) (by assumption) ?tr207
    case ty207 => (intro w hSw; (try dsimp only at hSw); go_simp; (try with_reducible rfl))
    try simp only [List.getElem_toArray, List.getElem_cons_succ, List.getElem_cons_zero, Act.put, List.setIfInBounds_toArray, List.set_cons_zero, List.set_cons_succ]
    refine Hd.take (i := 2) (v := ?tv208) hok rfl (by kernel_rfl) (fun _ _ _ h => h) (Or.inl ⟨by rfl, ?ty208⟩) (by assumption) ?tr208
    case ty208 => (intro w hSw; (try dsimp only at hSw); go_simp; (try with_reducible rfl))
    try simp only [List.getElem_toArray, List.getElem_cons_succ, List.getElem_cons_zero, Act.put, List.setIfInBounds_toArray, List.set_cons_zero, List.set_cons_succ]
    refine Hd.take (i := 3) (v := ?tv209) hok rfl (by kernel_rfl) (fun _ _ _ h => h) (Or.inl ⟨by rfl, ?ty209⟩) (by assumption) ?tr209
    case ty209 => (intro w hSw; (try dsimp only at hSw); go_simp; (try with_reducible rfl))
    try simp only [List.getElem_toArray, List.getElem_cons_succ, List.getElem_cons_zero, Act.put, List.setIfInBounds_toArray, List.set_cons_zero, List.set_cons_succ]
    refine Hd.take (i := 4) (v := ?tv210) hok rfl (by kernel_rfl) (fun _ _ _ h => h) (Or.inl ⟨by rfl, ?ty210⟩) (by assumption) ?tr210
    case ty210 => (intro w hSw; (try dsimp only at hSw); go_simp; (try with_reducible rfl))
    try simp only [List.getElem_toArray, List.getElem_cons_succ, List.getElem_cons_zero, Act.put, List.setIfInBounds_toArray, List.set_cons_zero, List.set_cons_succ]
    refine Hd.take (i := 5) (v := ?tv211) hok rfl (by kernel_rfl) (fun _ _ _ h => h) (Or.inl ⟨by rfl, ?ty211⟩) (by assumption) ?tr211
    case ty211 => (intro w hSw; (try dsimp only at hSw); go_simp; (try with_reducible rfl))
    try simp only [List.getElem_toArray, List.getElem_cons_succ, List.getElem_cons_zero, Act.put, List.setIfInBounds_toArray, List.set_cons_zero, List.set_cons_succ]
    refine Hd.take (i := 6) (v := ?tv212) hok rfl (by kernel_rfl) (fun _ _ _ h => h) (Or.inl ⟨by rfl, ?ty212⟩) (by assumption) ?tr212
    case ty212 => (intro w hSw; (try dsimp only at hSw); go_simp; (try with_reducible rfl))
    try simp only [List.getElem_toArray, List.getElem_cons_succ, List.getElem_cons_zero, Act.put, List.setIfInBounds_toArray, List.set_cons_zero, List.set_cons_succ]
    refine Hd.take (i := 7) (v := ?tv213) hok rfl (by kernel_rfl) (fun _ _ _ h => h) (Or.inl ⟨by rfl, ?ty213⟩) (by assumption) ?tr213
    case ty213 => (intro w hSw; (try dsimp only at hSw); go_simp; (try with_reducible rfl))
    try simp only [List.getElem_toArray, List.getElem_cons_succ, List.getElem_cons_zero, Act.put, List.setIfInBounds_toArray, List.set_cons_zero, List.set_cons_succ]
    refine Hd.one (i := 8) rfl (by kernel_rfl) (fun K hK => ?_)
    go_simp
    refine hop.out.mono ?_
    rintro e w4 ⟨rfl, hb4⟩
    dsimp only
    have hz4 := hzd.below hb4.out
    obtain ⟨hbx, -⟩ := hz4.box 2 rfl
    obtain ⟨hrb, -⟩ := hz4.box (B := rb) (C := (rqCells q y).toArray) (t := 68) 1 rfl
    clear k0 k1 k2 k3 k4 k5 d3 d5
    have k0 : w4.cell? ⟨wb, 0, none⟩ = some (.slice k.ab k.bs.length k.cb) := box_cell hbx 0
    have k1 : w4.cell? ⟨wb, 1, none⟩ = some (.int .u64 m.nv) := box_cell hbx 1
    have k2 : w4.cell? ⟨wb, 2, none⟩ = some (.slice k.ah m.homes.length k.ch) := box_cell hbx 2
    have k3 : w4.cell? ⟨wb, 3, none⟩ = some (.slice k.as_ m.seats.length k.cs) := box_cell hbx 3
    have k4 : w4.cell? ⟨wb, 4, none⟩ = some (.int .u64 m.ns) := box_cell hbx 4
    have k5 : w4.cell? ⟨wb, 5, none⟩ = some (.int .u64 m.sweeps) := box_cell hbx 5
    have k24 : w4.cell? ⟨wb, 24, none⟩ = some (.int .u64 o.session) := box_cell hbx 24
    have f24 := box_free hbx 24
    have d3 : w4.cell? ⟨rb, 3, none⟩ = some (.int .i64 q.node) := box_cell hrb 3
    have d5 : w4.cell? ⟨rb, 5, none⟩ = some (.int .u64 q.try_) := box_cell hrb 5
    refine hK _ _ ⟨k0, k1, k2, k3, k4, k5, d3, d5⟩ ?_
    clear hK K
    try simp only [List.getElem_toArray, List.getElem_cons_succ, List.getElem_cons_zero, Act.put, List.setIfInBounds_toArray, List.set_cons_zero, List.set_cons_succ]
    refine Hd.done (by kernel_rfl) ?_
    simp only [List.drop_succ_cons, List.drop_zero]
    clear hop hzd hok hS0 hb4 hbx hrb k0 k1 k2 k4 k5 d3 d5
    rcases findIdx_find (fun x : St => x.node == q.node && x.try_ == q.try_) m.seats with ⟨e1, e2⟩ | ⟨i, hi, e1, e2⟩
    · rw [e1]
      have hr : Hid (openM m q o = (14, m, o)) := Lib.hid (by unfold openM; rw [if_neg hgood.out, hhe.out, if_neg hlo, if_pos hcc.out, e2])
      have hzE := Lib.hid (hz4.tail.tail)
      clear hz4 hz hlo hgood e1 e2 k3 k24 f24
      go_wp2_with fail
      go_ret
      exact WkRet.of hr.out ⟨k, rfl, hk, hzE⟩
    · rw [e1]
      have hr : Hid (openM m q o = (0, m, { o with session := m.seats[i].session })) := Lib.hid (by unfold openM; rw [if_neg hgood.out, hhe.out, if_neg hlo, if_pos hcc.out, e2])
      obtain ⟨gs, cap, hv, -, -, hcells⟩ := (hz4.own 7 rfl).cells hi
      injection hv with hv1 hv2 hv3
      rw [hv1] at k3
      have c0 : w4.cell? ⟨gs, i * 5, none⟩ = some (.int .u64 m.seats[i].session) := hcells 0 (by decide)
      have hzE : Hid (Zoo W0 (w4.setCell ⟨wb, 24, none⟩ (.int .u64 m.seats[i].session)) (workL wb k m q y { o with session := m.seats[i].session })) := Lib.hid ((hz4.tail.tail).setBox 0 rfl 24 (.int .u64 m.seats[i].session))
      generalize m.seats[i].session = sess at *
      have hi0 : (0 : Int) ≤ (i : Int) := by omega
      have hi1 : (i : Int) < (m.seats.length : Int) := by omega
      clear hz4 hz hlo hgood e1 e2 hcells hv1 hv2 hv3
      go_wp2_with fail
      go_ret
      exact WkRet.of hr.out ⟨k, rfl, hk, hzE⟩
  | false =>
    have hcc : Hid (¬ (h.life = q.life ∧ q.try_ ≤ h.try_)) := Lib.hid (by
      rintro ⟨g1, g2⟩
      have := hc2.out
      rw [decide_eq_true g1, decide_eq_true g2] at this
      cases this)
    have hso : Hid (seatsO m q = if h.life < q.life then m.seats.filter (fun x => !(x.node == q.node)) else m.seats) := Lib.hid (by unfold seatsO; rw [hhe.out])
    obtain ⟨hbx, -⟩ := hz.out.box 2 rfl
    have k3 : wc.cell? ⟨wb, 3, none⟩ = some (.slice k.as_ m.seats.length k.cs) := box_cell hbx 3
    clear hbx
    go_upto_if 97 with fail
    go_cut [7] (fun v7 wx => ∃ a c, v7 = .slice a (seatsO m q).length c ∧ Hid (Zoo W0 wx (boxT hb (hmCells h).toArray 108 :: rqBox rb q y :: workL wb k m q y o)) ∧ Hid (Zoo W0 wx (stT.row (.slice a (seatsO m q).length c) (seatsO m q) :: boxT hb (hmCells h).toArray 108 :: rqBox rb q y :: (workL wb k m q y o).eraseIdx 5)))
    case first =>
      by_cases hlt : h.life < q.life
      · rw [if_pos hlt] at hso
        have hlt' : (h.life : Int) < (q.life : Int) := by omega
        have hcl := Lib.hid (cloneSt_any (hz.out.own 7 rfl).rd (by omega))
        clear hlt
        go_wp2_with fail
        refine hcl.out.mono ?_
        rintro e w5 ⟨v5, rfl, ho5, hb5, hf5⟩
        have hz5 := hz.out.newRow (R := stT) hb5.out ho5.out hf5.out
        obtain ⟨a5, c5, hv5⟩ := ho5.out.len
        have hdel := Lib.hid (openDDel_any v5 m.seats (fun x => x.node == q.node) (.pointer (some ⟨rb, 0, none⟩)) (by omega) hz5 (fun x _ W2 l2 h2 => open1_any x rb q.node (box_cell (h2.box (B := rb) (C := (rqCells q y).toArray) (t := 68) 2 rfl).1 3)))
        subst hv5
        clear hcl hz5 ho5 hb5 hf5
        go_wp2_with fail
        refine hdel.out.mono ?_
        rintro e w6 ⟨v6, rfl, hz6⟩
        rw [← hso.out] at hz6
        obtain ⟨a6, c6, hv6⟩ := (hz6.out.own 0 rfl).len
        subst hv6
        clear hdel
        go_wp2_with fail
        go_meet
        case rel => exact ⟨a6, c6, rfl, Lib.hid hz6.out.tail, Lib.hid (hz6.out.sub (List.Sublist.cons_cons _ (List.Sublist.cons_cons _ (List.Sublist.cons_cons _ (List.eraseIdx_sublist _ _)))))⟩
      · rw [if_neg hlt] at hso
        have hlt' : decide ((h.life : Int) < (q.life : Int)) = false := decide_eq_false (by omega)
        have hlt2 : ¬ ((h.life : Int) < (q.life : Int)) := by omega
        have hfr := Lib.hid (hz.out.front 7 rfl)
        rw [← hso.out] at hfr k3
        clear hlt
        rw [hso.out] at k3
        go_wp2_with fail
        go_meet
        case rel => exact ⟨k.as_, k.cs, by rw [hso.out], hz, hfr⟩
    case rest =>
    obtain ⟨a7, c7, rfl, hzA, hzB⟩ := hcut
    generalize wc = wI at *
    obtain ⟨ss, hss⟩ : ∃ ss, seatsO m q = ss := ⟨_, rfl⟩
    rw [hss] at hzB ⊢
    replace hss := Lib.hid hss
    have hsl : Hid (ss.length ≤ 1000) := Lib.hid (by
      rw [← hss.out]
      unfold seatsO
      split
      · exact Nat.le_trans (List.length_filter_le _ _) hls
      · exact hls)
    have hr0 : Hid (openM m q o = (if 16 ≤ ss.length ∨ 4611686018427387904 ≤ m.ns then (7, m, o)
      else (0, settleM { m with seats := ss ++ [⟨m.ns, 0, q.node, q.life, q.try_⟩], ns := m.ns + 1 } (idxI (fun x => x.node == q.node) m.homes) ⟨q.node, q.life, q.try_⟩, { o with session := m.ns }))) := Lib.hid (by
        unfold openM
        rw [if_neg hgood.out, hhe.out, if_neg hlo, if_neg hcc.out, hss.out])
    obtain ⟨hbx, -⟩ := hzA.out.box 2 rfl
    have k4 : wI.cell? ⟨wb, 4, none⟩ = some (.int .u64 m.ns) := box_cell hbx 4
    have k24 : wI.cell? ⟨wb, 24, none⟩ = some (.int .u64 o.session) := box_cell hbx 24
    have f24 := box_free hbx 24
    clear hbx hz h1 h2 r3 r4 r5 hlo' k3 hgood hlo hcc hso hc2 hhe
    by_cases h16 : 16 ≤ ss.length
    · have h16' : (16 : Int) ≤ (ss.length : Int) := by omega
      have hr : Hid (openM m q o = (7, m, o)) := Lib.hid (by rw [hr0.out, if_pos (.inl h16)])
      have hzE := Lib.hid (hzA.out.tail.tail)
      clear hzA hzB hr0 h16
      go_wp2_with fail
      go_ret
      exact WkRet.of hr.out ⟨k, rfl, hk, hzE⟩
    have h16' : decide ((16 : Int) ≤ (ss.length : Int)) = false := decide_eq_false (by omega)
    have h16b : ¬ (16 : Int) ≤ (ss.length : Int) := by omega
    by_cases hns : 4611686018427387904 ≤ m.ns
    · have hns' : (4611686018427387904 : Int) ≤ (m.ns : Int) := by omega
      have hr : Hid (openM m q o = (7, m, o)) := Lib.hid (by rw [hr0.out, if_pos (.inr hns)])
      have hzE := Lib.hid (hzA.out.tail.tail)
      clear hzA hzB hr0 h16 hns
      go_wp2_with fail
      go_ret
      exact WkRet.of hr.out ⟨k, rfl, hk, hzE⟩
    have hns' : decide ((4611686018427387904 : Int) ≤ (m.ns : Int)) = false := decide_eq_false (by omega)
    have hns3 : m.ns + 1 < 18446744073709551616 := by omega
    have hr : Hid _ := Lib.hid (hr0.out.trans (if_neg (fun h => h.elim h16 hns)))
    have hzC : Zoo W0 (wI.setCell ⟨wb, 24, none⟩ (.int .u64 m.ns)) (stT.row (.slice a7 ss.length c7) ss :: boxT hb (hmCells h).toArray 108 :: rqBox rb q y :: (workL wb k m q y { o with session := m.ns }).eraseIdx 5) := hzB.out.setBox 3 rfl 24 (.int .u64 m.ns)
    generalize hwJ : wI.setCell ⟨wb, 24, none⟩ (.int .u64 m.ns) = wJ at hzC
    have hzd := hzC.drew
    obtain ⟨hbx, -⟩ := hzd.box (B := wb) (C := (workCells k m q y { o with session := m.ns }).toArray) (t := 97) 3 rfl
    obtain ⟨hrb, -⟩ := hzd.box (B := rb) (C := (rqCells q y).toArray) (t := 68) 2 rfl
    have s4 : wJ.drew.cell? ⟨wb, 4, none⟩ = some (.int .u64 m.ns) := box_cell hbx 4
    have d3 : wJ.drew.cell? ⟨rb, 3, none⟩ = some (.int .i64 q.node) := box_cell hrb 3
    have d4 : wJ.drew.cell? ⟨rb, 4, none⟩ = some (.int .u64 q.life) := box_cell hrb 4
    have d5 : wJ.drew.cell? ⟨rb, 5, none⟩ = some (.int .u64 q.try_) := box_cell hrb 5
    clear hbx hrb hzC hzA hzB h16 hns hr0
    go_wp2_with fail
    clear h16' h16b hns' k4 k24 f24 hwJ
    refine wp_region_hd (fun w' => w'.cell? ⟨wb, 4, none⟩ = some (.int .u64 m.ns) ∧ w'.cell? ⟨rb, 3, none⟩ = some (.int .i64 q.node) ∧ w'.cell? ⟨rb, 4, none⟩ = some (.int .u64 q.life) ∧ w'.cell? ⟨rb, 5, none⟩ = some (.int .u64 q.try_)) 16 4 (by kernel_rfl) rfl ⟨by kernel_rfl, by kernel_rfl, by kernel_rfl, by decide⟩ ⟨s4, d3, d4, d5⟩ (fun hok hS0 => ?_)
    generalize wJ.drew = Wd at *
    refine Hd.take (i := 0) (v := ?tv214) hok rfl (by kernel_rfl) (fun _ _ _ h => h) (Or.inl ⟨by rfl, ?ty214⟩) (by assumption) ?tr214
    case ty214 => (intro w hSw; (try dsimp only at hSw); go_simp; (try with_reducible rfl))
    try simp only [List.getElem_toArray, List.getElem_cons_succ, List.getElem_cons_zero, Act.put, List.setIfInBounds_toArray, List.set_cons_zero, List.set_cons_succ]
    refine Hd.take (i := 1) (v := ?tv215) hok rfl (by kernel_rfl) (fun _ _ _ h => h) (Or.inl ⟨by rfl, ?ty215⟩) (by assumption) ?tr215
    case ty215 => (intro w hSw; (try dsimp only at hSw); go_simp; (try with_reducible rfl))
    try simp only [List.getElem_toArray, List.getElem_cons_succ, List.getElem_cons_zero, Act.put, List.setIfInBounds_toArray, List.set_cons_zero, List.set_cons_succ]
    refine Hd.take (i := 2) (v := ?tv216) hok rfl (by kernel_rfl) (fun _ _ _ h => h) (Or.inl ⟨by rfl, ?ty216⟩) (by assumption) ?tr216
    case ty216 => (intro w hSw; (try dsimp only at hSw); go_simp; (try with_reducible rfl))
    try simp only [List.getElem_toArray, List.getElem_cons_succ, List.getElem_cons_zero, Act.put, List.setIfInBounds_toArray, List.set_cons_zero, List.set_cons_succ]
    refine Hd.take (i := 3) (v := ?tv217) hok rfl (by kernel_rfl) (fun _ _ _ h => h) (Or.inl ⟨by rfl, ?ty217⟩) (by assumption) ?tr217
    case ty217 => (intro w hSw; (try dsimp only at hSw); go_simp; (try with_reducible rfl))
    try simp only [List.getElem_toArray, List.getElem_cons_succ, List.getElem_cons_zero, Act.put, List.setIfInBounds_toArray, List.set_cons_zero, List.set_cons_succ]
    refine Hd.take (i := 4) (v := ?tv218) hok rfl (by kernel_rfl) (fun _ _ _ h => h) (Or.inl ⟨by rfl, ?ty218⟩) (by assumption) ?tr218
    case ty218 => (intro w hSw; (try dsimp only at hSw); go_simp; (try with_reducible rfl))
    try simp only [List.getElem_toArray, List.getElem_cons_succ, List.getElem_cons_zero, Act.put, List.setIfInBounds_toArray, List.set_cons_zero, List.set_cons_succ]
    refine Hd.take (i := 5) (v := ?tv219) hok rfl (by kernel_rfl) (fun _ _ _ h => h) (Or.inl ⟨by rfl, ?ty219⟩) (by assumption) ?tr219
    case ty219 => (intro w hSw; (try dsimp only at hSw); go_simp; (try with_reducible rfl))
    try simp only [List.getElem_toArray, List.getElem_cons_succ, List.getElem_cons_zero, Act.put, List.setIfInBounds_toArray, List.set_cons_zero, List.set_cons_succ]
    refine Hd.take (i := 6) (v := ?tv220) hok rfl (by kernel_rfl) (fun _ _ _ h => h) (Or.inl ⟨by rfl, ?ty220⟩) (by assumption) ?tr220
    case ty220 => (intro w hSw; (try dsimp only at hSw); go_simp; (try with_reducible rfl))
    try simp only [List.getElem_toArray, List.getElem_cons_succ, List.getElem_cons_zero, Act.put, List.setIfInBounds_toArray, List.set_cons_zero, List.set_cons_succ]
    refine Hd.take (i := 7) (v := ?tv221) hok rfl (by kernel_rfl) (fun _ _ _ h => h) (Or.inl ⟨by rfl, ?ty221⟩) (by assumption) ?tr221
    case ty221 => (intro w hSw; (try dsimp only at hSw); go_simp; (try with_reducible rfl))
    try simp only [List.getElem_toArray, List.getElem_cons_succ, List.getElem_cons_zero, Act.put, List.setIfInBounds_toArray, List.set_cons_zero, List.set_cons_succ]
    refine Hd.take (i := 8) (v := ?tv222) hok rfl (by kernel_rfl) (fun _ _ _ h => h) (Or.inl ⟨by rfl, ?ty222⟩) (by assumption) ?tr222
    case ty222 => (intro w hSw; (try dsimp only at hSw); go_simp; (try with_reducible rfl))
    try simp only [List.getElem_toArray, List.getElem_cons_succ, List.getElem_cons_zero, Act.put, List.setIfInBounds_toArray, List.set_cons_zero, List.set_cons_succ]
    refine Hd.take (i := 9) (v := ?tv223) hok rfl (by kernel_rfl) (fun _ _ _ h => h) (Or.inl ⟨by rfl, ?ty223⟩) (by assumption) ?tr223
    case ty223 => (intro w hSw; (try dsimp only at hSw); go_simp; (try with_reducible rfl))
    try simp only [List.getElem_toArray, List.getElem_cons_succ, List.getElem_cons_zero, Act.put, List.setIfInBounds_toArray, List.set_cons_zero, List.set_cons_succ]
    refine Hd.take (i := 10) (v := ?tv224) hok rfl (by kernel_rfl) (fun _ _ _ h => h) (Or.inl ⟨by rfl, ?ty224⟩) (by assumption) ?tr224
    case ty224 => (intro w hSw; (try dsimp only at hSw); go_simp; (try with_reducible rfl))
    try simp only [List.getElem_toArray, List.getElem_cons_succ, List.getElem_cons_zero, Act.put, List.setIfInBounds_toArray, List.set_cons_zero, List.set_cons_succ]
    refine Hd.take (i := 11) (v := ?tv225) hok rfl (by kernel_rfl) (fun _ _ _ h => h) (Or.inl ⟨by rfl, ?ty225⟩) (by assumption) ?tr225
    case ty225 => (intro w hSw; (try dsimp only at hSw); go_simp; (try with_reducible rfl))
    try simp only [List.getElem_toArray, List.getElem_cons_succ, List.getElem_cons_zero, Act.put, List.setIfInBounds_toArray, List.set_cons_zero, List.set_cons_succ]
    refine Hd.take (i := 12) (v := ?tv226) hok rfl (by kernel_rfl) (fun _ _ _ h => h) (Or.inl ⟨by rfl, ?ty226⟩) (by assumption) ?tr226
    case ty226 => (intro w hSw; (try dsimp only at hSw); go_simp; (try with_reducible rfl))
    try simp only [List.getElem_toArray, List.getElem_cons_succ, List.getElem_cons_zero, Act.put, List.setIfInBounds_toArray, List.set_cons_zero, List.set_cons_succ]
    refine Hd.take (i := 13) (v := ?tv227) hok rfl (by kernel_rfl) (fun _ _ _ h => h) (Or.inl ⟨by rfl, ?ty227⟩) (by assumption) ?tr227
    case ty227 => (intro w hSw; (try dsimp only at hSw); go_simp; (try with_reducible rfl))
    try simp only [List.getElem_toArray, List.getElem_cons_succ, List.getElem_cons_zero, Act.put, List.setIfInBounds_toArray, List.set_cons_zero, List.set_cons_succ]
    refine Hd.one (i := 14) rfl (by kernel_rfl) (fun K hK => ?_)
    go_simp
    obtain ⟨ns, hnst⟩ : ∃ ns : St, (⟨m.ns, 0, q.node, q.life, q.try_⟩ : St) = ns := ⟨_, rfl⟩
    have hcells : stT.enc ns = [.int .u64 m.ns, .int .u64 0, .int .i64 q.node, .int .u64 q.life, .int .u64 q.try_] := by rw [← hnst]; rfl
    have hzA := hzd.alloc (.cells (stT.enc ns).toArray 100)
    refine hK _ _ ⟨cell_old _ s4, cell_old _ d3, cell_old _ d4, cell_old _ d5⟩ ?_
    clear hK K
    try simp only [List.getElem_toArray, List.getElem_cons_succ, List.getElem_cons_zero, Act.put, List.setIfInBounds_toArray, List.set_cons_zero, List.set_cons_succ]
    refine Hd.one (i := 15) rfl (by kernel_rfl) (fun K hK => ?_)
    have hown1 := RT.Own.one stT Wd ns Wd.heap.size rfl
    obtain ⟨F, ⟨ho1, hF⟩, -, hact⟩ := hzA.act 0 (stT.row (.slice a7 ss.length c7) ss) rfl
    rw [hcells] at hown1 ho1 hact hzA
    refine stT.step_append rfl (.tmp 123) (.tmp 136) rfl _ _ ss [ns] rfl rfl ho1 hown1.rd (by rw [List.length_singleton]; have := hsl.out; omega) ?_
    intro v8 w8 ho8 hg8 hat8
    have hz8 := hact (stT.row v8 (ss ++ [ns])) (fun k => v8.ownBlock = some k) w8 ⟨ho8, fun _ => Iff.rfl⟩ (grows_row hF hg8 hat8)
    obtain ⟨a8, c8, hv8⟩ := ho8.len
    subst hv8
    obtain ⟨hbx8, -⟩ := hz8.box (B := wb) (C := (workCells k m q y { o with session := m.ns }).toArray) (t := 97) 3 rfl
    obtain ⟨hrb8, -⟩ := hz8.box (B := rb) (C := (rqCells q y).toArray) (t := 68) 2 rfl
    refine hK _ _ ⟨box_cell hbx8 4, box_cell hrb8 3, box_cell hrb8 4, box_cell hrb8 5⟩ ?_
    clear hK K
    try simp only [List.getElem_toArray, List.getElem_cons_succ, List.getElem_cons_zero, Act.put, List.setIfInBounds_toArray, List.set_cons_zero, List.set_cons_succ]
    refine Hd.done (by kernel_rfl) ?_
    simp only [List.drop_succ_cons, List.drop_zero]
    have t3 : w8.cell? ⟨wb, 3, none⟩ = some (.slice k.as_ m.seats.length k.cs) := box_cell hbx8 3
    have f3 := box_free hbx8 3
    have hln : (ss ++ [ns]).length = ss.length + 1 := by simp
    have hz9 := hz8.setBox (B := wb) (C := workCells k m q y { o with session := m.ns }) (t := 97) 3 rfl 3 (.slice a8 (ss ++ [ns]).length c8)
    have hz9s : Zoo W0 (w8.setCell ⟨wb, 3, none⟩ (.slice a8 (ss ++ [ns]).length c8)) (stT.row (.slice a8 (ss ++ [ns]).length c8) (ss ++ [ns]) :: (rqBox rb q y :: workL wb { k with as_ := a8, cs := c8 } { m with seats := ss ++ [ns] } q y { o with session := m.ns }).eraseIdx 6) := hz9.sub (List.Sublist.cons_cons _ (List.Sublist.cons _ (List.Sublist.refl _)))
    have hz10 : Zoo W0 (w8.setCell ⟨wb, 3, none⟩ (.slice a8 (ss ++ [ns]).length c8)) (rqBox rb q y :: workL wb { k with as_ := a8, cs := c8 } { m with seats := ss ++ [ns] } q y { o with session := m.ns }) := Zoo.back (L := rqBox rb q y :: workL wb { k with as_ := a8, cs := c8 } { m with seats := ss ++ [ns] } q y { o with session := m.ns }) 6 (by show 6 < _ + 8; omega) hz9s
    rw [hln] at hz10
    generalize hwC : w8.setCell ⟨wb, 3, none⟩ (.slice a8 (ss.length + 1) c8) = wC at hz10
    have k4 : wC.cell? ⟨wb, 4, none⟩ = some (.int .u64 m.ns) := box_cell (hz10.box 1 rfl).1 4
    have f4 := box_free (hz10.box 1 rfl).1 4
    have hz11 : Zoo W0 (wC.setCell ⟨wb, 4, none⟩ (.int .u64 ((m.ns : Int) + 1))) (rqBox rb q y :: workL wb { k with as_ := a8, cs := c8 } { m with seats := ss ++ [ns], ns := m.ns + 1 } q y { o with session := m.ns }) := hz10.setBox 1 rfl 4 (.int .u64 ((m.ns : Int) + 1))
    generalize hwD : wC.setCell ⟨wb, 4, none⟩ (.int .u64 ((m.ns : Int) + 1)) = wD at hz11
    obtain ⟨hrb, -⟩ := hz11.box (B := rb) (C := (rqCells q y).toArray) (t := 68) 0 rfl
    have r3 : wD.cell? ⟨rb, 3, none⟩ = some (.int .i64 q.node) := box_cell hrb 3
    have r4 : wD.cell? ⟨rb, 4, none⟩ = some (.int .u64 q.life) := box_cell hrb 4
    have r5 : wD.cell? ⟨rb, 5, none⟩ = some (.int .u64 q.try_) := box_cell hrb 5
    have hset := settle_any (wb := wb) (k := { k with as_ := a8, cs := c8 }) (m := { m with seats := ss ++ [ns], ns := m.ns + 1 }) (q := q) (y := y) (o := { o with session := m.ns }) (E := []) atI ⟨q.node, q.life, q.try_⟩ (by rw [List.append_nil]; exact hz11.tail) hlh
      (fun hp => by
        rcases findIdx_cases (fun x : Hm => x.node == q.node) m.homes with ⟨e1, e2⟩ | ⟨i, hi, e1, e2⟩
        · rw [hA.out] at e2; omega
        · rw [hA.out] at e2
          subst e2
          simpa using hi)
      (fun hneg => ⟨hh.out.sorted, fun x hx => by
        rcases findIdx_cases (fun x : Hm => x.node == q.node) m.homes with ⟨e1, e2⟩ | ⟨i, hi, e1, e2⟩
        · have := List.findIdx?_eq_none_iff.1 e1 x hx
          intro h
          rw [show x.node = q.node from h, beq_self_eq_true] at this
          cases this
        · rw [hA.out] at e2; omega, hh.out.small, hqn0, hqn1⟩)
    have hset2 : Hid (Calls Tryz.prog 63 #[.pointer (some ⟨wb, 0, none⟩), .int .i64 atI, .agg #[.int .i64 q.node, .int .u64 q.life, .int .u64 q.try_]] wD (SetlRet W0 wb { k with as_ := a8, cs := c8 } (settleM { m with seats := ss ++ [ns], ns := m.ns + 1 } atI ⟨q.node, q.life, q.try_⟩) q y { o with session := m.ns } [])) := Lib.hid hset
    rw [hnst, hA.out] at hr
    rw [hln]
    replace hnst := Lib.hid hnst
    clear hset hz11 hz10 hz9 hz9s hz8 hbx8 hrb8 hact ho8 hg8 hat8 ho1 hF hown1 hzA hcells hok hS0 s4 d3 d4 d5 hzd hrb hln hA hh hss
    go_wp2_with fail
    refine hset2.out.mono ?_
    rintro e w9 ⟨ah, ch, rfl, hz9⟩
    rw [List.append_nil] at hz9
    have hokF : Hid (WkOk { k with as_ := a8, cs := c8, ah := ah, ch := ch } (settleM { m with seats := ss ++ [ns], ns := m.ns + 1 } atI ⟨q.node, q.life, q.try_⟩)) := Lib.hid ⟨by
      unfold settleM
      split
      · exact hk.out.1
      · exact hk.out.1, hk.out.2⟩
    clear hset2 hwC hwD k4 f4 t3 f3 r3 r4 r5
    go_wp2_with fail
    go_ret
    exact WkRet.of hr.out ⟨_, rfl, hokF, hz9⟩
end Go.Proofs.YtcnebfmlelcliaaGreat
namespace Go.Proofs.YtcnebfmlelcliaaGreat
set_option linter.unusedSimpArgs false
open Go.RowKit
attribute [local go_sem ↓] Go.wp_at_zero Go.wp_at_succ

def doesM (m : Ml) (q : Rq) : Int × Ml × Oc :=
  if q.op = 1 then openM m q oc0 else if q.op = 2 then endM m q oc0 else if q.op = 3 then lookM m q oc0 else if q.op = 4 then createM m q oc0
  else if q.op = 5 then removeM m q oc0 else if q.op = 6 then appendM m q oc0 else if q.op = 7 then storeM m q oc0 else if q.op = 8 then expungeM m q oc0
  else if q.op = 9 then copyM m q oc0 else sweepM m q oc0
def ocE (n : Int) : Oc := { oc0 with code := n }
def finM (r : Int × Ml × Oc) : Ml × Oc := if r.1 = 0 then (r.2.1, r.2.2) else (r.2.1, ocE r.1)
def seatPut (m : Ml) (i : Nat) (n : Nat) : Ml := { m with seats := m.seats.modify i (fun x => { x with last := n }) }
def applyM (m : Ml) (q : Rq) : Ml × Oc :=
  if q.op < 1 ∨ 11 ≤ q.op ∨ 64 < q.uids.length then (m, ocE 1)
  else if q.op = 1 ∨ q.op = 10 then finM (doesM m q)
  else match m.seats.findIdx? (fun x => x.session == q.session) with
    | none => (m, ocE 16)
    | some i => if q.number ≤ ((m.seats[i]?).map St.last).getD 0 then (m, ocE 14) else finM (doesM (seatPut m i q.number) q)
structure ApSt (m : Ml) : Prop where
  sz : Sized1 m
  nb : m.boxes.length ≤ 500
  nh : m.homes.length ≤ 100
  hm : HomesOk m
  nx : ∀ b ∈ m.boxes, b.next ≤ 4294967296
  hi : ∀ b ∈ m.boxes, b.high ≤ 9223372036854775807
  fs : ∀ b ∈ m.boxes, ∀ x ∈ b.letters, Sized x.flags
  so : m.boxes.Pairwise (fun x y => bxltB x y = true)
  sw : m.sweeps ≤ 9223372036854775807
theorem ApSt.put {m : Ml} (h : ApSt m) (i n : Nat) : ApSt (seatPut m i n) := ⟨⟨h.sz.boxes, h.sz.homes, by show (m.seats.modify i _).length ≤ 1000; rw [List.length_modify]; exact h.sz.seats, h.sz.letters, h.sz.flags⟩, h.nb, h.nh, ⟨h.hm.sorted, h.hm.small⟩, h.nx, h.hi, h.fs, h.so, h.sw⟩
structure RqOk (q : Rq) : Prop where
  sz : RqSz q
  box : q.box.size ≤ maxLen
/-- the table of deeds -/
def doesL : List Value := [.nilFunc, .func (.func 35) #[] #[], .func (.func 36) #[] #[], .func (.func 37) #[] #[], .func (.func 38) #[] #[], .func (.func 39) #[] #[], .func (.func 40) #[] #[], .func (.func 41) #[] #[], .func (.func 42) #[] #[], .func (.func 43) #[] #[], .func (.func 44) #[] #[]]
theorem does_any {W0 W : World} {wb : Nat} {k : WkV} {m : Ml} {q : Rq} {y : RqV} (hz : Zoo W0 W (workL wb k m q y oc0)) (hk : WkOk k m) (hm : ApSt m) (hin : RqIn W0 q y) (hq : RqOk q) (n : Nat) (hn : q.op = (n : Int)) (h1 : 1 ≤ n) (h2 : n ≤ 10) :
    ∃ fn, doesL[n]? = some (.func (.func fn) #[] #[]) ∧ (∀ args w, (callFunc fn args).run Tryz.prog w = .ok (.enter fn args) w) ∧ Calls Tryz.prog fn #[.pointer (some ⟨wb, 0, none⟩)] W (WkRet2 W0 wb q y (doesM m q)) := by
  have hc : n = 1 ∨ n = 2 ∨ n = 3 ∨ n = 4 ∨ n = 5 ∨ n = 6 ∨ n = 7 ∨ n = 8 ∨ n = 9 ∨ n = 10 := by omega
  have tw : ∀ {fn : FuncId} {res : Int × Ml × Oc}, Calls Tryz.prog fn #[.pointer (some ⟨wb, 0, none⟩)] W (WkRet W0 wb q y res) → Calls Tryz.prog fn #[.pointer (some ⟨wb, 0, none⟩)] W (WkRet2 W0 wb q y res) := fun h => h.mono (fun _ _ h => h.two)
  unfold doesM
  rw [hn]
  rcases hc with rfl | rfl | rfl | rfl | rfl | rfl | rfl | rfl | rfl | rfl
  · exact ⟨_, rfl, enters_of Tryz.func35 (by kernel_rfl) rfl, tw (open_any hz hk hm.nh hm.sz.seats hm.hm)⟩
  · exact ⟨_, rfl, enters_of Tryz.func36 (by kernel_rfl) rfl, tw (end_any hz hk (by have := hm.sz.seats; omega))⟩
  · exact ⟨_, rfl, enters_of Tryz.func37 (by kernel_rfl) rfl, tw (look_any hz hk)⟩
  · exact ⟨_, rfl, enters_of Tryz.func38 (by kernel_rfl) rfl, tw (create_any hz hk hm.nb hq.box hm.so)⟩
  · exact ⟨_, rfl, enters_of Tryz.func39 (by kernel_rfl) rfl, tw (remove_any hz hk hm.sz.boxes)⟩
  · exact ⟨_, rfl, enters_of Tryz.func40 (by kernel_rfl) rfl, tw (append_any hz hk hm.sz.boxes hin hq.sz)⟩
  · exact ⟨_, rfl, enters_of Tryz.func41 (by kernel_rfl) rfl, store_any hz hk hm.sz hm.fs hm.hi hin hq.sz (by decide) (by decide)⟩
  · exact ⟨_, rfl, enters_of Tryz.func42 (by kernel_rfl) rfl, tw (expunge_any hz hk hm.sz hin hq.sz (by decide))⟩
  · exact ⟨_, rfl, enters_of Tryz.func43 (by kernel_rfl) rfl, tw (copy_any hz hk hm.sz hm.nx hin hq.sz (by decide))⟩
  · exact ⟨_, rfl, enters_of Tryz.func44 (by kernel_rfl) rfl, tw (sweep_any hz hk hm.sw)⟩
/-- two results, each in a block of its own -/
theorem results_cells2 {fn : Func} {p u : Tmp} {ty ty2 t t2 : TypeId} (h : fn.results = #[.cell p ty, .cell u ty2]) (tmps : Array Value) (w : World) (B B2 : Nat) (C C2 : List Value) (hp : tmps.getD p undef = .pointer (some ⟨B, 0, none⟩)) (hu : tmps.getD u undef = .pointer (some ⟨B2, 0, none⟩)) (hb : w.heap[B]? = some (.cells C.toArray t (0, 0))) (hb2 : w.heap[B2]? = some (.cells C2.toArray t2 (0, 0)))
    (hagg : ∀ w, (isAgg ty).run Tryz.prog w = .ok true w) (hsz : ∀ w, (Go.sizeOf ty).run Tryz.prog w = .ok C.length w) (hagg2 : ∀ w, (isAgg ty2).run Tryz.prog w = .ok true w) (hsz2 : ∀ w, (Go.sizeOf ty2).run Tryz.prog w = .ok C2.length w) : (results fn tmps).run Tryz.prog w = .ok (.tuple #[.agg C.toArray, .agg C2.toArray]) w := by
  have h1 := run_loadCells_list (P := Tryz.prog) w ⟨B, 0, none⟩ C (fun j v hj => by rw [Addr.add_lit, Nat.zero_add, box_cell hb j]; simpa using hj)
  have h2 := run_loadCells_list (P := Tryz.prog) w ⟨B2, 0, none⟩ C2 (fun j v hj => by rw [Addr.add_lit, Nat.zero_add, box_cell hb2 j]; simpa using hj)
  rw [Array.getD_eq_getD_getElem?] at hp hu
  simp only [results, h]
  simp [Sem.run_bind, Result.andThen, hp, hu, asAddr, loadVar, hagg, hsz, h1, hagg2, hsz2, h2]
/-- the things stand in a world whose elder blocks have turned -/
theorem Zoo.rebase {Wb W0 W W' : World} {L : List Th} (h : Zoo W0 W L) (hB : Below Wb.heap.size Wb W') (hs : Wb.heap.size ≤ W0.heap.size) (hk : ∀ k, W0.heap.size ≤ k → W'.heap[k]? = W.heap[k]?) : Zoo Wb W' L := by
  obtain ⟨h0, P, h1, h2⟩ := h
  exact ⟨hB, P, h1, ⟨fun x hx => x.1.kept _ _ _ (h2.holds x hx) (fun k hF => hk k (h2.low x hx k hF)), fun x hx k hF => Nat.le_trans hs (h2.low x hx k hF), h2.apart⟩⟩
def OcIn (W : World) (v : Value) (o : Oc) : Prop := ∃ aU cU aM cM, v = .agg #[.int .i64 o.code, .int .u64 o.session, .int .u64 o.validity, .slice aU o.uids.length cU, .slice aM o.mods.length cM] ∧ Rd W (.slice aU o.uids.length cU) o.uids.length (u64T.cells o.uids) ∧ Rd W (.slice aM o.mods.length cM) o.mods.length (u64T.cells o.mods)
theorem OcIn.below {W W' : World} {v : Value} {o : Oc} (h : OcIn W v o) (hb : Below W.heap.size W W') : OcIn W' v o := by
  obtain ⟨aU, cU, aM, cM, h1, h2, h3⟩ := h
  exact ⟨aU, cU, aM, cM, h1, h2.below hb, h3.below hb⟩
/-- P holds of w, and of whatever keeps the blocks that count -/
def Stay (ok : Nat → Prop) (w : World) (P : World → Prop) : Prop := ∀ w' : World, (∀ k, ok k → k < w.heap.size → w'.heap[k]? = w.heap[k]?) → P w'
theorem Stay.now {ok : Nat → Prop} {w : World} {P : World → Prop} (h : Stay ok w P) : P w := h w (fun _ _ _ => rfl)
theorem Stay.on {ok : Nat → Prop} {w w' : World} {P : World → Prop} (h : Stay ok w P) (hs : w.heap.size ≤ w'.heap.size) (hw : ∀ k, ok k → k < w.heap.size → w'.heap[k]? = w.heap[k]?) : Stay ok w' P :=
  fun w2 h2 => h w2 (fun k hk hl => (h2 k hk (by omega)).trans (hw k hk hl))
theorem Stay.below {ok : Nat → Prop} {w w' : World} {P : World → Prop} (h : Stay ok w P) (hb : Below w.heap.size w w') : Stay ok w' P := h.on hb.size (fun k _ hl => hb.block k hl)
theorem Stay.weak {ok ok2 : Nat → Prop} {w : World} {P : World → Prop} (h : Stay ok w P) (hi : ∀ k, k < w.heap.size → ok k → ok2 k) : Stay ok2 w P :=
  fun w2 h2 => h w2 (fun k hk hl => h2 k (hi k hl hk) hl)
theorem Stay.mono {ok : Nat → Prop} {w : World} {P Q : World → Prop} (h : Stay ok w P) (hi : ∀ w', P w' → Q w') : Stay ok w Q := fun w2 h2 => hi w2 (h w2 h2)
/-- what lies in things that are new stays where they stay -/
theorem Zoo.stay {W1 w wF : World} {L : List Th} {P : World → Prop} (hz : Zoo W1 w L) (hh : ∀ j, W1.heap.size ≤ j → wF.heap[j]? = w.heap[j]?) (hP : ∀ W0 w', Zoo W0 w' L → P w') (hB : ∀ a b, P a → Below a.heap.size a b → P b) : Stay (fun j => W1.heap.size ≤ j) wF P := by
  intro w' hw'
  have h1 : Zoo { w' with heap := #[] } { w' with heap := w'.heap.extract 0 wF.heap.size } L := hz.rebase ⟨rfl, rfl, rfl, by simp, fun k hk => by simp at hk⟩ (by simp) (fun k hk => by
    rw [← hh k hk]
    rcases Nat.lt_or_ge k wF.heap.size with h | h
    · rw [← hw' k hk h, Array.getElem?_extract]
      simp [h]
      omega
    · rw [Array.getElem?_eq_none h, Array.getElem?_eq_none]
      simp only [Array.size_extract]
      omega)
  refine hB _ _ (hP _ _ h1) ⟨rfl, rfl, rfl, by simp only [Array.size_extract]; omega, fun k hk => ?_⟩
  simp only [Array.size_extract] at hk
  show w'.heap[k]? = (w'.heap.extract 0 wF.heap.size)[k]?
  rw [Array.getElem?_extract]
  simp only [Nat.zero_add]
  rw [if_pos (by omega)]
def ApRet (W : World) (r : Ml × Oc) (e : Ending) (w' : World) : Prop := ∃ v ov, e = .returned (.tuple #[v, ov]) ∧ Hid (Stay (fun k => W.heap.size ≤ k) w' fun x => MlIn x v r.1) ∧ Hid (Stay (fun k => W.heap.size ≤ k) w' fun x => OcIn x ov r.2) ∧ Hid (Below W.heap.size W w')
end Go.Proofs.YtcnebfmlelcliaaGreat
