/- Apply: walked. (written by tools/gen_MmG.py) -/
import Derived.Test.YtcnebfmlelcliaaGreatB15
namespace Go.Proofs.YtcnebfmlelcliaaGreat
set_option linter.unusedSimpArgs false
open Go.RowKit
attribute [local go_sem ↓] Go.wp_at_zero Go.wp_at_succ

def z6 : List Value := [.slice none 0 0, .int .u64 0, .slice none 0 0, .slice none 0 0, .int .u64 0, .int .u64 0]
def z5 : List Value := [.int .i64 0, .int .u64 0, .int .u64 0, .slice none 0 0, .slice none 0 0]
/-- the blocks that Apply has made ahead of its work -/
structure ApLow (W W1 : World) (RB R1 R2 DB : Nat) (q : Rq) (y : RqV) : Prop where
  below : Below W.heap.size W W1
  l1 : W.heap.size ≤ R1
  l2 : W.heap.size ≤ R2
  u1 : R1 < W1.heap.size
  u2 : R2 < W1.heap.size
  ne : R1 ≠ R2
  r1 : W1.heap[R1]? = some (.cells z6.toArray 27 (0, 0))
  r2 : W1.heap[R2]? = some (.cells z5.toArray 75 (0, 0))
  rb : W1.heap[RB]? = some (.cells (rqCells q y).toArray 68 (0, 0))
  db : W1.heap[DB]? = some (.cells doesL.toArray 94 (0, 0))
theorem ApLow.at_ {W W1 w : World} {RB R1 R2 DB : Nat} {q : Rq} {y : RqV} (h : ApLow W W1 RB R1 R2 DB q y) (hb : Below W1.heap.size W1 w) : w.heap[R1]? = some (.cells z6.toArray 27 (0, 0)) ∧ w.heap[R2]? = some (.cells z5.toArray 75 (0, 0)) ∧ w.heap[RB]? = some (.cells (rqCells q y).toArray 68 (0, 0)) ∧ w.heap[DB]? = some (.cells doesL.toArray 94 (0, 0)) :=
  ⟨heap_below h.r1 hb, heap_below h.r2 hb, heap_below h.rb hb, heap_below h.db hb⟩
theorem boxSome {w : World} {B : Nat} {C : List Value} {t : TypeId} (h : w.heap[B]? = some (.cells C.toArray t (0, 0))) : (∀ j, j < C.length → (w.cell? ⟨B, 0 + j, none⟩).isSome = true) ∧ ∀ j, w.frozen? ⟨B, j, none⟩ = false := by
  refine ⟨fun j hj => ?_, box_free h⟩
  rw [Nat.zero_add, box_cell h j, List.getElem?_toArray, List.getElem?_eq_getElem hj]; rfl
theorem boxSome2 {w : World} {B B2 : Nat} {C six : List Value} {t : TypeId} (h : w.heap[B]? = some (.cells C.toArray t (0, 0))) (hne : B2 ≠ B) : (∀ j, j < C.length → ((w.setCells B2 0 six).cell? ⟨B, 0 + j, none⟩).isSome = true) ∧ ∀ j, (w.setCells B2 0 six).frozen? ⟨B, j, none⟩ = false :=
  boxSome (((KeptB.sets _ _ (KeptB.refl w B2)).block B (fun e => hne e.symm)).trans h)
theorem ap_world {W W1 w : World} {R1 R2 : Nat} {t1 t2 : TypeId} {c6 c5 : List Value} (h1 : w.heap[R1]? = some (.cells c6.toArray t1 (0, 0))) (h2 : w.heap[R2]? = some (.cells c5.toArray t2 (0, 0))) (hne : R1 ≠ R2) (hW : Below W.heap.size W W1) (hw : Below W1.heap.size W1 w) (l1 : W.heap.size ≤ R1) (l2 : W.heap.size ≤ R2) (u1 : R1 < W1.heap.size) (u2 : R2 < W1.heap.size) (six five : List Value) (hl6 : six.length = c6.length) (hl5 : five.length = c5.length) :
    ((w.setCells R1 0 six).setCells R2 0 five).heap[R1]? = some (.cells six.toArray t1 (0, 0)) ∧ ((w.setCells R1 0 six).setCells R2 0 five).heap[R2]? = some (.cells five.toArray t2 (0, 0)) ∧ Below W.heap.size W ((w.setCells R1 0 six).setCells R2 0 five) ∧ ∀ k, W1.heap.size ≤ k → ((w.setCells R1 0 six).setCells R2 0 five).heap[k]? = w.heap[k]? := by
  have k1 := KeptB.sets six 0 (KeptB.refl w R1)
  have k2 := KeptB.sets five 0 (KeptB.refl (w.setCells R1 0 six) R2)
  have hB := hW.trans (hw.mono hW.size)
  have e1 := heap_setCells six 0 c6 w h1 (by omega)
  rw [List.take_zero, List.nil_append, Nat.zero_add, hl6, List.drop_length, List.append_nil] at e1
  have e2 := heap_setCells five 0 c5 (w.setCells R1 0 six) ((k1.block R2 (fun e => hne e.symm)).trans h2) (by omega)
  rw [List.take_zero, List.nil_append, Nat.zero_add, hl5, List.drop_length, List.append_nil] at e2
  refine ⟨(k2.block R1 hne).trans e1, e2, ⟨k2.os.trans (k1.os.trans hB.os), k2.tape.trans (k1.tape.trans hB.tape), k2.output.trans (k1.output.trans hB.output), by rw [k2.size, k1.size]; exact hB.size, fun k hk => (k2.block k (by omega)).trans ((k1.block k (by omega)).trans (hB.block k hk))⟩, fun k hk => (k2.block k (by omega)).trans (k1.block k (by omega))⟩
theorem six_one (k : WkV) (m : Ml) : ∀ v ∈ ([.slice k.ab k.bs.length k.cb, .int .u64 m.nv, .slice k.ah m.homes.length k.ch, .slice k.as_ m.seats.length k.cs, .int .u64 m.ns, .int .u64 m.sweeps] : List Value), v.oneCell' = true := fun v hv => by
  simp only [List.mem_cons, List.not_mem_nil, or_false] at hv
  rcases hv with rfl | rfl | rfl | rfl | rfl | rfl <;> rfl
theorem five_one (a b c : Int) : ∀ v ∈ ([.int .i64 a, .int .u64 b, .int .u64 c, .slice none 0 0, .slice none 0 0] : List Value), v.oneCell' = true := fun v hv => by
  simp only [List.mem_cons, List.not_mem_nil, or_false] at hv
  rcases hv with rfl | rfl | rfl | rfl | rfl <;> rfl
theorem ap_end {W W1 w wF : World} {wb : Nat} {k : WkV} {m : Ml} {q : Rq} {y : RqV} {o : Oc} (hz : Zoo W1 w (workL wb k m q y o)) (hk : WkOk k m) (hs : W.heap.size ≤ W1.heap.size) (hh : ∀ j, W1.heap.size ≤ j → wF.heap[j]? = w.heap[j]?) : Stay (fun j => W.heap.size ≤ j) wF (fun x => MlIn x (.agg ([.slice k.ab k.bs.length k.cb, .int .u64 m.nv, .slice k.ah m.homes.length k.ch, .slice k.as_ m.seats.length k.cs, .int .u64 m.ns, .int .u64 m.sweeps] : List Value).toArray) m) ∧ Stay (fun j => W.heap.size ≤ j) wF (fun x => OcIn x (.agg #[.int .i64 o.code, .int .u64 o.session, .int .u64 o.validity, .slice k.aU o.uids.length k.cU, .slice k.aM o.mods.length k.cM]) o) :=
  ⟨(hz.stay hh (fun _ _ h => stateL_in h.tail.tail.tail hk.2 hk.1) (fun _ _ h hb => h.below hb)).weak (fun _ _ h => Nat.le_trans hs h), (hz.stay hh (fun _ _ h => ⟨k.aU, k.cU, k.aM, k.cM, rfl, (h.own 1 rfl).rd, (h.own 2 rfl).rd⟩) (fun _ _ h hb => h.below hb)).weak (fun _ _ h => Nat.le_trans hs h)⟩
theorem ApRet.err {W W1 w wF : World} {wb : Nat} {k : WkV} {m m' : Ml} {q : Rq} {y : RqV} {o : Oc} {n : Int} (hr : applyM m q = (m', ocE n)) (hz : Zoo W1 w (workL wb k m' q y o)) (hk : WkOk k m') (hs : W.heap.size ≤ W1.heap.size) (hB : Below W.heap.size W wF) (hh : ∀ j, W1.heap.size ≤ j → wF.heap[j]? = w.heap[j]?) : ApRet W (applyM m q) (.returned (.tuple #[.agg ([.slice k.ab k.bs.length k.cb, .int .u64 m'.nv, .slice k.ah m'.homes.length k.ch, .slice k.as_ m'.seats.length k.cs, .int .u64 m'.ns, .int .u64 m'.sweeps] : List Value).toArray, .agg #[.int .i64 n, .int .u64 0, .int .u64 0, .slice none 0 0, .slice none 0 0]])) wF := by
  rw [hr]
  exact ⟨_, _, rfl, Lib.hid (ap_end hz hk hs hh).1, Lib.hid (fun _ _ => ⟨none, 0, none, 0, rfl, (RT.Own.nil u64T _).rd, (RT.Own.nil u64T _).rd⟩), Lib.hid hB⟩
theorem work_six {W : World} {wb : Nat} {k : WkV} {m : Ml} {q : Rq} {y : RqV} {o : Oc} {t : TypeId} (h : W.heap[wb]? = some (.cells (workCells k m q y o).toArray t (0, 0))) (j : Nat) (v : Value) (hj : ([.slice k.ab k.bs.length k.cb, .int .u64 m.nv, .slice k.ah m.homes.length k.ch, .slice k.as_ m.seats.length k.cs, .int .u64 m.ns, .int .u64 m.sweeps] : List Value)[j]? = some v) : W.cell? ⟨wb, 0 + j, none⟩ = some v := by
  rw [Nat.zero_add, box_cell h j]
  have hl := (List.getElem?_eq_some_iff.1 hj).1
  have e : workCells k m q y o = ([.slice k.ab k.bs.length k.cb, .int .u64 m.nv, .slice k.ah m.homes.length k.ch, .slice k.as_ m.seats.length k.cs, .int .u64 m.ns, .int .u64 m.sweeps] : List Value) ++ (workCells k m q y o).drop 6 := rfl
  rw [List.getElem?_toArray, e, List.getElem?_append_left hl]
  exact hj
theorem work_five {W : World} {wb : Nat} {k : WkV} {m : Ml} {q : Rq} {y : RqV} {o : Oc} {t : TypeId} (h : W.heap[wb]? = some (.cells (workCells k m q y o).toArray t (0, 0))) (j : Nat) (v : Value) (hj : ([.int .i64 o.code, .int .u64 o.session, .int .u64 o.validity, .slice k.aU o.uids.length k.cU, .slice k.aM o.mods.length k.cM] : List Value)[j]? = some v) : W.cell? ⟨wb, 23 + j, none⟩ = some v := by
  rw [box_cell h (23 + j)]
  have e : workCells k m q y o = (workCells k m q y o).take 23 ++ ([.int .i64 o.code, .int .u64 o.session, .int .u64 o.validity, .slice k.aU o.uids.length k.cU, .slice k.aM o.mods.length k.cM] : List Value) := rfl
  have h6 : ((workCells k m q y o).take 23).length = 23 := rfl
  rw [List.getElem?_toArray, e, List.getElem?_append_right (by rw [h6]; omega), h6, Nat.add_sub_cancel_left]
  exact hj
theorem modify_set {α : Type} (f : α → α) : ∀ (l : List α) (i : Nat) (hi : i < l.length), l.modify i f = l.set i (f l[i])
  | x :: r, 0, _ => rfl
  | x :: r, i + 1, hi => by
    rw [List.modify_succ_cons, List.set_cons_succ, modify_set f r i (by simpa using hi)]
    rfl
set_option maxRecDepth 100000 in
set_option maxHeartbeats 16000000 in
theorem apply_any {W : World} {m : Ml} {q : Rq} {y : RqV} (v : Value) (hin : MlIn W v m) (hm : ApSt m) (hqi : RqIn W q y) (hq : RqOk q) :
    Calls Tryz.prog 22 #[v, .agg (rqCells q y).toArray] W (ApRet W (applyM m q)) := by
  obtain ⟨vb, vh, vs, bs, rfl, hbs, hib, hih, his⟩ := hin
  have hin0 : MlIn W (mlVal vb m.nv vh vs m.ns m.sweeps) m := ⟨vb, vh, vs, bs, rfl, hbs, hib, hih, his⟩
  have hz1 := (Zoo.nil W).newBox [vb, .int .u64 m.nv, vh, vs, .int .u64 m.ns, .int .u64 m.sweeps].toArray 27
  generalize hMB : W.heap.size = MB at hz1
  generalize hWa : (W.alloc (.cells [vb, .int .u64 m.nv, vh, vs, .int .u64 m.ns, .int .u64 m.sweeps].toArray 27)) = Wa at hz1
  have hz2 := hz1.newBox (rqCells q y).toArray 68
  generalize hRB : Wa.heap.size = RB at hz2
  generalize hWb : (Wa.alloc (.cells (rqCells q y).toArray 68)) = Wb at hz2
  have hz3 := hz2.newBox [.slice none 0 0, .int .u64 0, .slice none 0 0, .slice none 0 0, .int .u64 0, .int .u64 0].toArray 27
  generalize hR1 : Wb.heap.size = R1 at hz3
  generalize hWc : (Wb.alloc (.cells [.slice none 0 0, .int .u64 0, .slice none 0 0, .slice none 0 0, .int .u64 0, .int .u64 0].toArray 27)) = Wc at hz3
  have hz4 := hz3.newBox [.int .i64 0, .int .u64 0, .int .u64 0, .slice none 0 0, .slice none 0 0].toArray 75
  generalize hR2 : Wc.heap.size = R2 at hz4
  generalize hWd : (Wc.alloc (.cells [.int .i64 0, .int .u64 0, .int .u64 0, .slice none 0 0, .slice none 0 0].toArray 75)) = Wd at hz4
  have hz5 := hz4.newBox doesL.toArray 94
  unfold doesL at hz5
  generalize hDB : Wd.heap.size = DB at hz5
  generalize hWe : (Wd.alloc (.cells [.nilFunc, .func (.func 35) #[] #[], .func (.func 36) #[] #[], .func (.func 37) #[] #[], .func (.func 38) #[] #[], .func (.func 39) #[] #[], .func (.func 40) #[] #[], .func (.func 41) #[] #[], .func (.func 42) #[] #[], .func (.func 43) #[] #[], .func (.func 44) #[] #[]].toArray 94)) = We at hz5
  have hlow : Hid (ApLow W We.drew RB R1 R2 DB q y) := Lib.hid ⟨hz5.drew.bel, (hz5.drew.box 2 rfl).2, (hz5.drew.box 1 rfl).2, (Array.getElem?_eq_some_iff.1 (hz5.drew.box 2 rfl).1).1, (Array.getElem?_eq_some_iff.1 (hz5.drew.box 1 rfl).1).1, (by
      have h1 := (Array.getElem?_eq_some_iff.1 (hz3.box 0 rfl).1).1
      intro e
      rw [e, ← hR2] at h1
      exact Nat.lt_irrefl _ h1), (hz5.drew.box 2 rfl).1, (hz5.drew.box 1 rfl).1, (hz5.drew.box 3 rfl).1, (hz5.drew.box 0 rfl).1⟩
  have hmbx := (hz5.drew.box (B := MB) (C := [vb, .int .u64 m.nv, vh, vs, .int .u64 m.ns, .int .u64 m.sweeps].toArray) (t := 27) 4 rfl).1
  have hclone := clone_any _ m We.drew (hin0.below hz5.drew.bel) hm.sz
  have hcl : Hid (Calls Tryz.prog 45 #[.agg #[vb, .int .u64 m.nv, vh, vs, .int .u64 m.ns, .int .u64 m.sweeps]] We.drew (CloneRet We.drew m)) := Lib.hid hclone
  replace hqi : Hid (RqIn We.drew q y) := Lib.hid (hqi.below hz5.drew.bel)
  unfold mlVal
  replace hm := Lib.hid hm
  replace hq := Lib.hid hq
  replace hmbx := Lib.hid hmbx
  clear hib hih his hbs hin0 hz1 hz2 hz3 hz4 hz5 hclone
  go_enter Tryz.func22, Tryz.ntmps22
  go_wp2_with fail
  clear hMB hWa hRB hWb hR1 hWc hR2 hWd hDB hWe
  refine wp_region_hd (fun w' => Hid (w'.heap[MB]? = some (.cells [vb, .int .u64 m.nv, vh, vs, .int .u64 m.ns, .int .u64 m.sweeps].toArray 27 (0, 0)) ∧ w'.heap[RB]? = some (.cells (rqCells q y).toArray 68 (0, 0)))) 5 1 (by kernel_rfl) rfl ⟨by kernel_rfl, by kernel_rfl, by kernel_rfl, by decide⟩ (Lib.hid ⟨hmbx.out, hlow.out.rb⟩) (fun hok hS0 => ?_)
  generalize We.drew = W1 at *
  refine Hd.take (i := 0) (v := .agg #[vb, .int .u64 m.nv, vh, vs, .int .u64 m.ns, .int .u64 m.sweeps]) hok rfl (by kernel_rfl) (fun _ _ _ h => h) (yields_load_cells 27 (.tmp 2) rfl MB 0 [vb, .int .u64 m.nv, vh, vs, .int .u64 m.ns, .int .u64 m.sweeps] (by rfl) Tryz.isAgg27 Tryz.sizeOf27 rfl (fun W hS j v hj => by rw [Nat.zero_add, box_cell hS.out.1 j]; simpa using hj)) (by assumption) ?_
  try simp only [List.getElem_toArray, List.getElem_cons_succ, List.getElem_cons_zero, Act.put, List.setIfInBounds_toArray, List.set_cons_zero, List.set_cons_succ]
  refine Hd.take (i := 2) (v := .agg (rqCells q y).toArray) hok rfl (by kernel_rfl) (fun _ _ _ h => h) (yields_load_cells 68 (.tmp 3) rfl RB 0 (rqCells q y) (by rfl) Tryz.isAgg68 Tryz.sizeOf68 rfl (fun W hS j v hj => by rw [Nat.zero_add, box_cell hS.out.2 j]; simpa using hj)) (by assumption) ?_
  try simp only [List.getElem_toArray, List.getElem_cons_succ, List.getElem_cons_zero, Act.put, List.setIfInBounds_toArray, List.set_cons_zero, List.set_cons_succ]
  refine Hd.one (i := 1) rfl (by kernel_rfl) (fun K hK => ?_)
  go_simp
  refine hcl.out.mono ?_
  rintro e w3 ⟨vb', vh', vs', bs', S', rfl, hok', hz⟩
  dsimp only [mlVal]
  obtain ⟨ab, cb, rfl⟩ := (hz.out.own 0 rfl).len
  obtain ⟨ah, ch, rfl⟩ := (hz.out.own 1 rfl).len
  obtain ⟨as_, cs, rfl⟩ := (hz.out.own 2 rfl).len
  have hz6 := (hz.out.nilRow u64T).nilRow u64T
  obtain ⟨k, hke⟩ : ∃ k : WkV, (⟨ab, cb, ah, ch, as_, cs, none, 0, none, 0, bs', S'⟩ : WkV) = k := ⟨_, rfl⟩
  have hkok : Hid (WkOk k m) := Lib.hid (by rw [← hke]; exact hok'.out)
  have hz7 : Zoo W1 (w3.alloc (.cells (workCells k m q y oc0).toArray 97)) (workL w3.heap.size k m q y oc0) := by
    rw [← hke]
    exact hz6.newBox (workCells ⟨ab, cb, ah, ch, as_, cs, none, 0, none, 0, bs', S'⟩ m q y oc0).toArray 97
  have hS3 : Hid (w3.heap[MB]? = some (.cells [vb, .int .u64 m.nv, vh, vs, .int .u64 m.ns, .int .u64 m.sweeps].toArray 27 (0, 0)) ∧ w3.heap[RB]? = some (.cells (rqCells q y).toArray 68 (0, 0))) := Lib.hid ⟨heap_below hmbx.out hz.out.bel, heap_below hlow.out.rb hz.out.bel⟩
  refine hK _ _ hS3 ?_
  clear hK K
  try simp only [List.getElem_toArray, List.getElem_cons_succ, List.getElem_cons_zero, Act.put, List.setIfInBounds_toArray, List.set_cons_zero, List.set_cons_succ]
  refine Hd.take (i := 3) (v := .agg (workCells ⟨ab, cb, ah, ch, as_, cs, none, 0, none, 0, bs', S'⟩ m q y oc0).toArray) hok rfl (by kernel_rfl) (fun _ _ _ h => h) (Or.inl ⟨by rfl, ?tyB⟩) (by assumption) ?_
  case tyB =>
    intro w hSw
    clear hSw
    unfold rqCells workCells
    go_simp
    exact ⟨rfl, rfl, rfl, rfl, rfl⟩
  try simp only [List.getElem_toArray, List.getElem_cons_succ, List.getElem_cons_zero, Act.put, List.setIfInBounds_toArray, List.set_cons_zero, List.set_cons_succ]
  refine Hd.one (i := 4) rfl (by kernel_rfl) (fun K hK => ?_)
  go_simp
  refine hK _ _ (Lib.hid ⟨heap_below hS3.out.1 ((Below.refl _ _).alloc (Nat.le_refl _) _), heap_below hS3.out.2 ((Below.refl _ _).alloc (Nat.le_refl _) _)⟩) ?_
  clear hK K
  try simp only [List.getElem_toArray, List.getElem_cons_succ, List.getElem_cons_zero, Act.put, List.setIfInBounds_toArray, List.set_cons_zero, List.set_cons_succ]
  refine Hd.done (by kernel_rfl) ?_
  simp only [List.drop_succ_cons, List.drop_zero]
  replace hz7 := Lib.hid hz7
  generalize hw4 : (w3.alloc (.cells (workCells k m q y oc0).toArray 97)) = w4 at hz7 ⊢
  generalize hwb : w3.heap.size = wb at hz7 ⊢
  obtain ⟨-, -, hrbx, -⟩ := hlow.out.at_ hz7.out.bel
  have r0 : w4.cell? ⟨RB, 0, none⟩ = some (.int .i64 q.op) := box_cell hrbx 0
  have r9 : w4.cell? ⟨RB, 9, none⟩ = some (.slice y.au q.uids.length y.cu) := box_cell hrbx 9
  clear hrbx hz hz6 hok' hke hcl hmbx hS3 hS0 hok
  by_cases c1 : q.op < 1
  · have hr : Hid (applyM m q = (m, ocE 1)) := Lib.hid (by unfold applyM; rw [if_pos (.inl c1)])
    obtain ⟨hbx, -⟩ := hz7.out.box 0 rfl
    have kk0 : w4.cell? ⟨wb, 0, none⟩ = some (.slice k.ab k.bs.length k.cb) := box_cell hbx 0
    have kk1 : w4.cell? ⟨wb, 1, none⟩ = some (.int .u64 m.nv) := box_cell hbx 1
    have kk2 : w4.cell? ⟨wb, 2, none⟩ = some (.slice k.ah m.homes.length k.ch) := box_cell hbx 2
    have kk3 : w4.cell? ⟨wb, 3, none⟩ = some (.slice k.as_ m.seats.length k.cs) := box_cell hbx 3
    have kk4 : w4.cell? ⟨wb, 4, none⟩ = some (.int .u64 m.ns) := box_cell hbx 4
    have kk5 : w4.cell? ⟨wb, 5, none⟩ = some (.int .u64 m.sweeps) := box_cell hbx 5
    have hlo := hlow.out.at_ hz7.out.bel
    have za0 : w4.cell? ⟨R1, 0, none⟩ = some (.slice none 0 0) := box_cell hlo.1 0
    have za1 : w4.cell? ⟨R1, 1, none⟩ = some (.int .u64 0) := box_cell hlo.1 1
    have za2 : w4.cell? ⟨R1, 2, none⟩ = some (.slice none 0 0) := box_cell hlo.1 2
    have za3 : w4.cell? ⟨R1, 3, none⟩ = some (.slice none 0 0) := box_cell hlo.1 3
    have za4 : w4.cell? ⟨R1, 4, none⟩ = some (.int .u64 0) := box_cell hlo.1 4
    have za5 : w4.cell? ⟨R1, 5, none⟩ = some (.int .u64 0) := box_cell hlo.1 5
    have fa0 : w4.frozen? ⟨R1, 0, none⟩ = false := box_free hlo.1 0
    have fa1 : w4.frozen? ⟨R1, 1, none⟩ = false := box_free hlo.1 1
    have fa2 : w4.frozen? ⟨R1, 2, none⟩ = false := box_free hlo.1 2
    have fa3 : w4.frozen? ⟨R1, 3, none⟩ = false := box_free hlo.1 3
    have fa4 : w4.frozen? ⟨R1, 4, none⟩ = false := box_free hlo.1 4
    have fa5 : w4.frozen? ⟨R1, 5, none⟩ = false := box_free hlo.1 5
    have zb0 : w4.cell? ⟨R2, 0, none⟩ = some (.int .i64 0) := box_cell hlo.2.1 0
    have zb1 : w4.cell? ⟨R2, 1, none⟩ = some (.int .u64 0) := box_cell hlo.2.1 1
    have zb2 : w4.cell? ⟨R2, 2, none⟩ = some (.int .u64 0) := box_cell hlo.2.1 2
    have zb3 : w4.cell? ⟨R2, 3, none⟩ = some (.slice none 0 0) := box_cell hlo.2.1 3
    have zb4 : w4.cell? ⟨R2, 4, none⟩ = some (.slice none 0 0) := box_cell hlo.2.1 4
    have fb0 : w4.frozen? ⟨R2, 0, none⟩ = false := box_free hlo.2.1 0
    have fb1 : w4.frozen? ⟨R2, 1, none⟩ = false := box_free hlo.2.1 1
    have fb2 : w4.frozen? ⟨R2, 2, none⟩ = false := box_free hlo.2.1 2
    have fb3 : w4.frozen? ⟨R2, 3, none⟩ = false := box_free hlo.2.1 3
    have fb4 : w4.frozen? ⟨R2, 4, none⟩ = false := box_free hlo.2.1 4
    have hne1 := hlow.out.ne
    have hne2 := hlow.out.ne.symm
    have hwld := Lib.hid (ap_world hlo.1 hlo.2.1 hlow.out.ne hlow.out.below hz7.out.bel hlow.out.l1 hlow.out.l2 hlow.out.u1 hlow.out.u2 [.slice k.ab k.bs.length k.cb, .int .u64 m.nv, .slice k.ah m.homes.length k.ch, .slice k.as_ m.seats.length k.cs, .int .u64 m.ns, .int .u64 m.sweeps] [.int .i64 1, .int .u64 0, .int .u64 0, .slice none 0 0, .slice none 0 0] rfl rfl)
    simp only [World.setCells, Nat.zero_add] at hwld
    clear hbx hlo
    go_wp2_with fail
    refine bodyPost_ret (results_cells2 rfl _ _ R1 R2 [.slice k.ab k.bs.length k.cb, .int .u64 m.nv, .slice k.ah m.homes.length k.ch, .slice k.as_ m.seats.length k.cs, .int .u64 m.ns, .int .u64 m.sweeps] [.int .i64 1, .int .u64 0, .int .u64 0, .slice none 0 0, .slice none 0 0] rfl rfl hwld.out.1 hwld.out.2.1 Tryz.isAgg27 Tryz.sizeOf27 Tryz.isAgg75 Tryz.sizeOf75) rfl ?_
    exact ApRet.err hr.out hz7.out hkok.out hlow.out.below.size hwld.out.2.2.1 hwld.out.2.2.2
  by_cases c2 : 11 ≤ q.op
  · have c1' : decide (q.op < 1) = false := decide_eq_false c1
    have hr : Hid (applyM m q = (m, ocE 1)) := Lib.hid (by unfold applyM; rw [if_pos (.inr (.inl c2))])
    clear c1
    obtain ⟨hbx, -⟩ := hz7.out.box 0 rfl
    have kk0 : w4.cell? ⟨wb, 0, none⟩ = some (.slice k.ab k.bs.length k.cb) := box_cell hbx 0
    have kk1 : w4.cell? ⟨wb, 1, none⟩ = some (.int .u64 m.nv) := box_cell hbx 1
    have kk2 : w4.cell? ⟨wb, 2, none⟩ = some (.slice k.ah m.homes.length k.ch) := box_cell hbx 2
    have kk3 : w4.cell? ⟨wb, 3, none⟩ = some (.slice k.as_ m.seats.length k.cs) := box_cell hbx 3
    have kk4 : w4.cell? ⟨wb, 4, none⟩ = some (.int .u64 m.ns) := box_cell hbx 4
    have kk5 : w4.cell? ⟨wb, 5, none⟩ = some (.int .u64 m.sweeps) := box_cell hbx 5
    have hlo := hlow.out.at_ hz7.out.bel
    have za0 : w4.cell? ⟨R1, 0, none⟩ = some (.slice none 0 0) := box_cell hlo.1 0
    have za1 : w4.cell? ⟨R1, 1, none⟩ = some (.int .u64 0) := box_cell hlo.1 1
    have za2 : w4.cell? ⟨R1, 2, none⟩ = some (.slice none 0 0) := box_cell hlo.1 2
    have za3 : w4.cell? ⟨R1, 3, none⟩ = some (.slice none 0 0) := box_cell hlo.1 3
    have za4 : w4.cell? ⟨R1, 4, none⟩ = some (.int .u64 0) := box_cell hlo.1 4
    have za5 : w4.cell? ⟨R1, 5, none⟩ = some (.int .u64 0) := box_cell hlo.1 5
    have fa0 : w4.frozen? ⟨R1, 0, none⟩ = false := box_free hlo.1 0
    have fa1 : w4.frozen? ⟨R1, 1, none⟩ = false := box_free hlo.1 1
    have fa2 : w4.frozen? ⟨R1, 2, none⟩ = false := box_free hlo.1 2
    have fa3 : w4.frozen? ⟨R1, 3, none⟩ = false := box_free hlo.1 3
    have fa4 : w4.frozen? ⟨R1, 4, none⟩ = false := box_free hlo.1 4
    have fa5 : w4.frozen? ⟨R1, 5, none⟩ = false := box_free hlo.1 5
    have zb0 : w4.cell? ⟨R2, 0, none⟩ = some (.int .i64 0) := box_cell hlo.2.1 0
    have zb1 : w4.cell? ⟨R2, 1, none⟩ = some (.int .u64 0) := box_cell hlo.2.1 1
    have zb2 : w4.cell? ⟨R2, 2, none⟩ = some (.int .u64 0) := box_cell hlo.2.1 2
    have zb3 : w4.cell? ⟨R2, 3, none⟩ = some (.slice none 0 0) := box_cell hlo.2.1 3
    have zb4 : w4.cell? ⟨R2, 4, none⟩ = some (.slice none 0 0) := box_cell hlo.2.1 4
    have fb0 : w4.frozen? ⟨R2, 0, none⟩ = false := box_free hlo.2.1 0
    have fb1 : w4.frozen? ⟨R2, 1, none⟩ = false := box_free hlo.2.1 1
    have fb2 : w4.frozen? ⟨R2, 2, none⟩ = false := box_free hlo.2.1 2
    have fb3 : w4.frozen? ⟨R2, 3, none⟩ = false := box_free hlo.2.1 3
    have fb4 : w4.frozen? ⟨R2, 4, none⟩ = false := box_free hlo.2.1 4
    have hne1 := hlow.out.ne
    have hne2 := hlow.out.ne.symm
    have hwld := Lib.hid (ap_world hlo.1 hlo.2.1 hlow.out.ne hlow.out.below hz7.out.bel hlow.out.l1 hlow.out.l2 hlow.out.u1 hlow.out.u2 [.slice k.ab k.bs.length k.cb, .int .u64 m.nv, .slice k.ah m.homes.length k.ch, .slice k.as_ m.seats.length k.cs, .int .u64 m.ns, .int .u64 m.sweeps] [.int .i64 1, .int .u64 0, .int .u64 0, .slice none 0 0, .slice none 0 0] rfl rfl)
    simp only [World.setCells, Nat.zero_add] at hwld
    clear hbx hlo
    go_wp2_with fail
    refine bodyPost_ret (results_cells2 rfl _ _ R1 R2 [.slice k.ab k.bs.length k.cb, .int .u64 m.nv, .slice k.ah m.homes.length k.ch, .slice k.as_ m.seats.length k.cs, .int .u64 m.ns, .int .u64 m.sweeps] [.int .i64 1, .int .u64 0, .int .u64 0, .slice none 0 0, .slice none 0 0] rfl rfl hwld.out.1 hwld.out.2.1 Tryz.isAgg27 Tryz.sizeOf27 Tryz.isAgg75 Tryz.sizeOf75) rfl ?_
    exact ApRet.err hr.out hz7.out hkok.out hlow.out.below.size hwld.out.2.2.1 hwld.out.2.2.2
  by_cases c3 : 64 < q.uids.length
  · have c1' : decide (q.op < 1) = false := decide_eq_false c1
    have c2' : decide (11 ≤ q.op) = false := decide_eq_false c2
    have c3' : (64 : Int) < (q.uids.length : Int) := by omega
    have hr : Hid (applyM m q = (m, ocE 1)) := Lib.hid (by unfold applyM; rw [if_pos (.inr (.inr c3))])
    clear c1 c2 c3
    obtain ⟨hbx, -⟩ := hz7.out.box 0 rfl
    have kk0 : w4.cell? ⟨wb, 0, none⟩ = some (.slice k.ab k.bs.length k.cb) := box_cell hbx 0
    have kk1 : w4.cell? ⟨wb, 1, none⟩ = some (.int .u64 m.nv) := box_cell hbx 1
    have kk2 : w4.cell? ⟨wb, 2, none⟩ = some (.slice k.ah m.homes.length k.ch) := box_cell hbx 2
    have kk3 : w4.cell? ⟨wb, 3, none⟩ = some (.slice k.as_ m.seats.length k.cs) := box_cell hbx 3
    have kk4 : w4.cell? ⟨wb, 4, none⟩ = some (.int .u64 m.ns) := box_cell hbx 4
    have kk5 : w4.cell? ⟨wb, 5, none⟩ = some (.int .u64 m.sweeps) := box_cell hbx 5
    have hlo := hlow.out.at_ hz7.out.bel
    have za0 : w4.cell? ⟨R1, 0, none⟩ = some (.slice none 0 0) := box_cell hlo.1 0
    have za1 : w4.cell? ⟨R1, 1, none⟩ = some (.int .u64 0) := box_cell hlo.1 1
    have za2 : w4.cell? ⟨R1, 2, none⟩ = some (.slice none 0 0) := box_cell hlo.1 2
    have za3 : w4.cell? ⟨R1, 3, none⟩ = some (.slice none 0 0) := box_cell hlo.1 3
    have za4 : w4.cell? ⟨R1, 4, none⟩ = some (.int .u64 0) := box_cell hlo.1 4
    have za5 : w4.cell? ⟨R1, 5, none⟩ = some (.int .u64 0) := box_cell hlo.1 5
    have fa0 : w4.frozen? ⟨R1, 0, none⟩ = false := box_free hlo.1 0
    have fa1 : w4.frozen? ⟨R1, 1, none⟩ = false := box_free hlo.1 1
    have fa2 : w4.frozen? ⟨R1, 2, none⟩ = false := box_free hlo.1 2
    have fa3 : w4.frozen? ⟨R1, 3, none⟩ = false := box_free hlo.1 3
    have fa4 : w4.frozen? ⟨R1, 4, none⟩ = false := box_free hlo.1 4
    have fa5 : w4.frozen? ⟨R1, 5, none⟩ = false := box_free hlo.1 5
    have zb0 : w4.cell? ⟨R2, 0, none⟩ = some (.int .i64 0) := box_cell hlo.2.1 0
    have zb1 : w4.cell? ⟨R2, 1, none⟩ = some (.int .u64 0) := box_cell hlo.2.1 1
    have zb2 : w4.cell? ⟨R2, 2, none⟩ = some (.int .u64 0) := box_cell hlo.2.1 2
    have zb3 : w4.cell? ⟨R2, 3, none⟩ = some (.slice none 0 0) := box_cell hlo.2.1 3
    have zb4 : w4.cell? ⟨R2, 4, none⟩ = some (.slice none 0 0) := box_cell hlo.2.1 4
    have fb0 : w4.frozen? ⟨R2, 0, none⟩ = false := box_free hlo.2.1 0
    have fb1 : w4.frozen? ⟨R2, 1, none⟩ = false := box_free hlo.2.1 1
    have fb2 : w4.frozen? ⟨R2, 2, none⟩ = false := box_free hlo.2.1 2
    have fb3 : w4.frozen? ⟨R2, 3, none⟩ = false := box_free hlo.2.1 3
    have fb4 : w4.frozen? ⟨R2, 4, none⟩ = false := box_free hlo.2.1 4
    have hne1 := hlow.out.ne
    have hne2 := hlow.out.ne.symm
    have hwld := Lib.hid (ap_world hlo.1 hlo.2.1 hlow.out.ne hlow.out.below hz7.out.bel hlow.out.l1 hlow.out.l2 hlow.out.u1 hlow.out.u2 [.slice k.ab k.bs.length k.cb, .int .u64 m.nv, .slice k.ah m.homes.length k.ch, .slice k.as_ m.seats.length k.cs, .int .u64 m.ns, .int .u64 m.sweeps] [.int .i64 1, .int .u64 0, .int .u64 0, .slice none 0 0, .slice none 0 0] rfl rfl)
    simp only [World.setCells, Nat.zero_add] at hwld
    clear hbx hlo
    go_wp2_with fail
    refine bodyPost_ret (results_cells2 rfl _ _ R1 R2 [.slice k.ab k.bs.length k.cb, .int .u64 m.nv, .slice k.ah m.homes.length k.ch, .slice k.as_ m.seats.length k.cs, .int .u64 m.ns, .int .u64 m.sweeps] [.int .i64 1, .int .u64 0, .int .u64 0, .slice none 0 0, .slice none 0 0] rfl rfl hwld.out.1 hwld.out.2.1 Tryz.isAgg27 Tryz.sizeOf27 Tryz.isAgg75 Tryz.sizeOf75) rfl ?_
    exact ApRet.err hr.out hz7.out hkok.out hlow.out.below.size hwld.out.2.2.1 hwld.out.2.2.2
  have c1' : decide (q.op < 1) = false := decide_eq_false c1
  have c2' : decide (11 ≤ q.op) = false := decide_eq_false c2
  have c3' : decide ((64 : Int) < (q.uids.length : Int)) = false := decide_eq_false (by omega)
  have hg : Hid (¬ (q.op < 1 ∨ 11 ≤ q.op ∨ 64 < q.uids.length)) := Lib.hid (by omega)
  obtain ⟨n, hn⟩ : ∃ n : Nat, q.op = (n : Int) := ⟨q.op.toNat, by omega⟩
  have hn1 : 1 ≤ n := by omega
  have hn2 : n ≤ 10 := by omega
  have hop : Hid (q.op = (n : Int)) := Lib.hid hn
  rw [hn] at r0 c1' c2'
  clear c1 c2 c3 hn
  go_upto_region 5 with fail
  go_cut [42] (fun v42 wx => v42 = .bool (!(decide (n = 1) || decide (n = 10))) ∧ wx = w4)
  case first =>
    by_cases e1 : n = 1
    · have f1 : ((n : Int) != 1) = false := by rw [e1]; rfl
      replace e1 := Lib.hid e1
      go_wp2_with fail
      go_meet
      case rel => exact ⟨by rw [decide_eq_true e1.out]; rfl, rfl⟩
    · have f1 : ((n : Int) != 1) = true := bne_iff_ne.2 (by omega)
      replace e1 := Lib.hid e1
      by_cases e10 : n = 10
      · have f10 : ((n : Int) != 10) = false := by rw [e10]; rfl
        replace e10 := Lib.hid e10
        go_wp2_with fail
        go_meet
        case rel => exact ⟨by rw [decide_eq_true e10.out, Bool.or_true]; rfl, rfl⟩
      · have f10 : ((n : Int) != 10) = true := bne_iff_ne.2 (by omega)
        replace e10 := Lib.hid e10
        go_wp2_with fail
        go_meet
        case rel => exact ⟨by rw [decide_eq_false e1.out, decide_eq_false e10.out]; rfl, rfl⟩
  case rest =>
  obtain ⟨rfl, rfl⟩ := hcut
  obtain ⟨B, hB⟩ : ∃ B, (!(decide (n = 1) || decide (n = 10))) = B := ⟨_, rfl⟩
  rw [hB]
  replace hB := Lib.hid hB
  have hbase : Hid (applyM m q = if q.op = 1 ∨ q.op = 10 then finM (doesM m q) else match m.seats.findIdx? (fun x => x.session == q.session) with
    | none => (m, ocE 16)
    | some i => if q.number ≤ ((m.seats[i]?).map St.last).getD 0 then (m, ocE 14) else finM (doesM (seatPut m i q.number) q)) := Lib.hid (by unfold applyM; rw [if_neg hg.out]; rfl)
  clear r0 r9 c1' c2' c3' hg hw4 hwb
  go_upto_if 42 with fail
  go_cut [] (fun wx => ∃ (m2 : Ml) (k2 : WkV), Hid (ApSt m2) ∧ Hid (applyM m q = finM (doesM m2 q)) ∧ Hid (WkOk k2 m2) ∧ Hid (Zoo W1 wx (workL wb k2 m2 q y oc0)))
  case first =>
    cases B with
    | false =>
      have hr : Hid (applyM m q = finM (doesM m q)) := Lib.hid (by
        rw [hbase.out, if_pos]
        have := hB.out
        rw [hop.out]
        simp at this
        omega)
      clear hbase hB
      go_wp2_with fail
      go_meet
      case rel => exact ⟨m, k, hm, hr, hkok, hz7⟩
    | true =>
      have hr0 : Hid (¬ (q.op = 1 ∨ q.op = 10)) := Lib.hid (by
        have := hB.out
        rw [hop.out]
        simp at this
        omega)
      rw [if_neg hr0.out] at hbase
      have hzd := hz7.out.drew
      obtain ⟨hbx, -⟩ := hzd.box 0 rfl
      have k0 : wc.drew.cell? ⟨wb, 0, none⟩ = some (.slice k.ab k.bs.length k.cb) := box_cell hbx 0
      have k1 : wc.drew.cell? ⟨wb, 1, none⟩ = some (.int .u64 m.nv) := box_cell hbx 1
      have k2 : wc.drew.cell? ⟨wb, 2, none⟩ = some (.slice k.ah m.homes.length k.ch) := box_cell hbx 2
      have k3 : wc.drew.cell? ⟨wb, 3, none⟩ = some (.slice k.as_ m.seats.length k.cs) := box_cell hbx 3
      have k4 : wc.drew.cell? ⟨wb, 4, none⟩ = some (.int .u64 m.ns) := box_cell hbx 4
      have k5 : wc.drew.cell? ⟨wb, 5, none⟩ = some (.int .u64 m.sweeps) := box_cell hbx 5
      obtain ⟨-, -, hrbx, -⟩ := hlow.out.at_ hzd.bel
      have r1 : wc.drew.cell? ⟨RB, 1, none⟩ = some (.int .u64 q.session) := box_cell hrbx 1
      have hseat : Hid (Calls Tryz.prog 46 #[.agg #[.slice k.ab k.bs.length k.cb, .int .u64 m.nv, .slice k.ah m.homes.length k.ch, .slice k.as_ m.seats.length k.cs, .int .u64 m.ns, .int .u64 m.sweeps], .int .u64 q.session] wc.drew (IntBelow wc.drew (idxI (fun x => x.session == q.session) m.seats))) := Lib.hid (seat_any k.ab k.ah k.as_ k.bs.length k.cb m.homes.length k.ch k.cs m.nv m.ns m.sweeps m.seats q.session (hzd.own 5 rfl).rd (by have := hm.out.sz.seats; omega))
      clear hbx hrbx hr0 hB hz7
      go_wp2_with fail
      refine wp_region_hd (fun w' => w'.cell? ⟨wb, 0, none⟩ = some (.slice k.ab k.bs.length k.cb) ∧ w'.cell? ⟨wb, 1, none⟩ = some (.int .u64 m.nv) ∧ w'.cell? ⟨wb, 2, none⟩ = some (.slice k.ah m.homes.length k.ch) ∧ w'.cell? ⟨wb, 3, none⟩ = some (.slice k.as_ m.seats.length k.cs) ∧ w'.cell? ⟨wb, 4, none⟩ = some (.int .u64 m.ns) ∧ w'.cell? ⟨wb, 5, none⟩ = some (.int .u64 m.sweeps) ∧ w'.cell? ⟨RB, 1, none⟩ = some (.int .u64 q.session)) 7 1 (by kernel_rfl) rfl ⟨by kernel_rfl, by kernel_rfl, by kernel_rfl, by decide⟩ ⟨k0, k1, k2, k3, k4, k5, r1⟩ (fun hok hS0 => ?_)
      generalize wc.drew = Wd2 at *
      refine Hd.take (i := 0) (v := ?tv228) hok rfl (by kernel_rfl) (fun _ _ _ h => h) (Or.inl ⟨by rfl, ?ty228⟩) (by assumption) ?tr228
      case ty228 => (intro w hSw; (try dsimp only at hSw); go_simp; (try with_reducible rfl))
      try simp only [List.getElem_toArray, List.getElem_cons_succ, List.getElem_cons_zero, Act.put, List.setIfInBounds_toArray, List.set_cons_zero, List.set_cons_succ]
      refine Hd.take (i := 1) (v := ?tv229) hok rfl (by kernel_rfl) (fun _ _ _ h => h) (Or.inl ⟨by rfl, ?ty229⟩) (by assumption) ?tr229
      case ty229 => (intro w hSw; (try dsimp only at hSw); go_simp; (try with_reducible rfl))
      try simp only [List.getElem_toArray, List.getElem_cons_succ, List.getElem_cons_zero, Act.put, List.setIfInBounds_toArray, List.set_cons_zero, List.set_cons_succ]
      refine Hd.take (i := 2) (v := ?tv230) hok rfl (by kernel_rfl) (fun _ _ _ h => h) (Or.inl ⟨by rfl, ?ty230⟩) (by assumption) ?tr230
      case ty230 => (intro w hSw; (try dsimp only at hSw); go_simp; (try with_reducible rfl))
      try simp only [List.getElem_toArray, List.getElem_cons_succ, List.getElem_cons_zero, Act.put, List.setIfInBounds_toArray, List.set_cons_zero, List.set_cons_succ]
      refine Hd.take (i := 3) (v := ?tv231) hok rfl (by kernel_rfl) (fun _ _ _ h => h) (Or.inl ⟨by rfl, ?ty231⟩) (by assumption) ?tr231
      case ty231 => (intro w hSw; (try dsimp only at hSw); go_simp; (try with_reducible rfl))
      try simp only [List.getElem_toArray, List.getElem_cons_succ, List.getElem_cons_zero, Act.put, List.setIfInBounds_toArray, List.set_cons_zero, List.set_cons_succ]
      refine Hd.take (i := 4) (v := ?tv232) hok rfl (by kernel_rfl) (fun _ _ _ h => h) (Or.inl ⟨by rfl, ?ty232⟩) (by assumption) ?tr232
      case ty232 => (intro w hSw; (try dsimp only at hSw); go_simp; (try with_reducible rfl))
      try simp only [List.getElem_toArray, List.getElem_cons_succ, List.getElem_cons_zero, Act.put, List.setIfInBounds_toArray, List.set_cons_zero, List.set_cons_succ]
      refine Hd.take (i := 5) (v := ?tv233) hok rfl (by kernel_rfl) (fun _ _ _ h => h) (Or.inl ⟨by rfl, ?ty233⟩) (by assumption) ?tr233
      case ty233 => (intro w hSw; (try dsimp only at hSw); go_simp; (try with_reducible rfl))
      try simp only [List.getElem_toArray, List.getElem_cons_succ, List.getElem_cons_zero, Act.put, List.setIfInBounds_toArray, List.set_cons_zero, List.set_cons_succ]
      refine Hd.one (i := 6) rfl (by kernel_rfl) (fun K hK => ?_)
      go_simp
      refine hseat.out.mono ?_
      rintro e w5 ⟨rfl, hb5⟩
      dsimp only
      have hz8 := hzd.below hb5.out
      obtain ⟨hbx, -⟩ := hz8.box 0 rfl
      obtain ⟨-, -, hrbx, -⟩ := hlow.out.at_ hz8.bel
      clear k0 k1 k2 k3 k4 k5 r1
      have k0 : w5.cell? ⟨wb, 0, none⟩ = some (.slice k.ab k.bs.length k.cb) := box_cell hbx 0
      have k1 : w5.cell? ⟨wb, 1, none⟩ = some (.int .u64 m.nv) := box_cell hbx 1
      have k2 : w5.cell? ⟨wb, 2, none⟩ = some (.slice k.ah m.homes.length k.ch) := box_cell hbx 2
      have k3 : w5.cell? ⟨wb, 3, none⟩ = some (.slice k.as_ m.seats.length k.cs) := box_cell hbx 3
      have k4 : w5.cell? ⟨wb, 4, none⟩ = some (.int .u64 m.ns) := box_cell hbx 4
      have k5 : w5.cell? ⟨wb, 5, none⟩ = some (.int .u64 m.sweeps) := box_cell hbx 5
      have r1 : w5.cell? ⟨RB, 1, none⟩ = some (.int .u64 q.session) := box_cell hrbx 1
      have r2 : w5.cell? ⟨RB, 2, none⟩ = some (.int .u64 q.number) := box_cell hrbx 2
      refine hK _ _ ⟨k0, k1, k2, k3, k4, k5, r1⟩ ?_
      clear hK K
      try simp only [List.getElem_toArray, List.getElem_cons_succ, List.getElem_cons_zero, Act.put, List.setIfInBounds_toArray, List.set_cons_zero, List.set_cons_succ]
      refine Hd.done (by kernel_rfl) ?_
      simp only [List.drop_succ_cons, List.drop_zero]
      replace hz8 := Lib.hid hz8
      clear hseat hzd hok hS0 hb5 hbx hrbx r1 k0 k1 k2 k4 k5
      rcases findIdx_cases (fun x : St => x.session == q.session) m.seats with ⟨e1, e2⟩ | ⟨i, hi, e1, e2⟩
      · rw [e2]
        rw [e1] at hbase
        have hr : Hid (applyM m q = (m, ocE 16)) := Lib.hid hbase.out
        clear e1 e2 hbase k3 r2
        obtain ⟨hbx, -⟩ := hz8.out.box 0 rfl
        have kk0 : w5.cell? ⟨wb, 0, none⟩ = some (.slice k.ab k.bs.length k.cb) := box_cell hbx 0
        have kk1 : w5.cell? ⟨wb, 1, none⟩ = some (.int .u64 m.nv) := box_cell hbx 1
        have kk2 : w5.cell? ⟨wb, 2, none⟩ = some (.slice k.ah m.homes.length k.ch) := box_cell hbx 2
        have kk3 : w5.cell? ⟨wb, 3, none⟩ = some (.slice k.as_ m.seats.length k.cs) := box_cell hbx 3
        have kk4 : w5.cell? ⟨wb, 4, none⟩ = some (.int .u64 m.ns) := box_cell hbx 4
        have kk5 : w5.cell? ⟨wb, 5, none⟩ = some (.int .u64 m.sweeps) := box_cell hbx 5
        have hlo := hlow.out.at_ hz8.out.bel
        have za0 : w5.cell? ⟨R1, 0, none⟩ = some (.slice none 0 0) := box_cell hlo.1 0
        have za1 : w5.cell? ⟨R1, 1, none⟩ = some (.int .u64 0) := box_cell hlo.1 1
        have za2 : w5.cell? ⟨R1, 2, none⟩ = some (.slice none 0 0) := box_cell hlo.1 2
        have za3 : w5.cell? ⟨R1, 3, none⟩ = some (.slice none 0 0) := box_cell hlo.1 3
        have za4 : w5.cell? ⟨R1, 4, none⟩ = some (.int .u64 0) := box_cell hlo.1 4
        have za5 : w5.cell? ⟨R1, 5, none⟩ = some (.int .u64 0) := box_cell hlo.1 5
        have fa0 : w5.frozen? ⟨R1, 0, none⟩ = false := box_free hlo.1 0
        have fa1 : w5.frozen? ⟨R1, 1, none⟩ = false := box_free hlo.1 1
        have fa2 : w5.frozen? ⟨R1, 2, none⟩ = false := box_free hlo.1 2
        have fa3 : w5.frozen? ⟨R1, 3, none⟩ = false := box_free hlo.1 3
        have fa4 : w5.frozen? ⟨R1, 4, none⟩ = false := box_free hlo.1 4
        have fa5 : w5.frozen? ⟨R1, 5, none⟩ = false := box_free hlo.1 5
        have zb0 : w5.cell? ⟨R2, 0, none⟩ = some (.int .i64 0) := box_cell hlo.2.1 0
        have zb1 : w5.cell? ⟨R2, 1, none⟩ = some (.int .u64 0) := box_cell hlo.2.1 1
        have zb2 : w5.cell? ⟨R2, 2, none⟩ = some (.int .u64 0) := box_cell hlo.2.1 2
        have zb3 : w5.cell? ⟨R2, 3, none⟩ = some (.slice none 0 0) := box_cell hlo.2.1 3
        have zb4 : w5.cell? ⟨R2, 4, none⟩ = some (.slice none 0 0) := box_cell hlo.2.1 4
        have fb0 : w5.frozen? ⟨R2, 0, none⟩ = false := box_free hlo.2.1 0
        have fb1 : w5.frozen? ⟨R2, 1, none⟩ = false := box_free hlo.2.1 1
        have fb2 : w5.frozen? ⟨R2, 2, none⟩ = false := box_free hlo.2.1 2
        have fb3 : w5.frozen? ⟨R2, 3, none⟩ = false := box_free hlo.2.1 3
        have fb4 : w5.frozen? ⟨R2, 4, none⟩ = false := box_free hlo.2.1 4
        have hne1 := hlow.out.ne
        have hne2 := hlow.out.ne.symm
        have hwld := Lib.hid (ap_world hlo.1 hlo.2.1 hlow.out.ne hlow.out.below hz8.out.bel hlow.out.l1 hlow.out.l2 hlow.out.u1 hlow.out.u2 [.slice k.ab k.bs.length k.cb, .int .u64 m.nv, .slice k.ah m.homes.length k.ch, .slice k.as_ m.seats.length k.cs, .int .u64 m.ns, .int .u64 m.sweeps] [.int .i64 16, .int .u64 0, .int .u64 0, .slice none 0 0, .slice none 0 0] rfl rfl)
        simp only [World.setCells, Nat.zero_add] at hwld
        clear hbx hlo
        go_wp2_with fail
        refine bodyPost_ret (results_cells2 rfl _ _ R1 R2 [.slice k.ab k.bs.length k.cb, .int .u64 m.nv, .slice k.ah m.homes.length k.ch, .slice k.as_ m.seats.length k.cs, .int .u64 m.ns, .int .u64 m.sweeps] [.int .i64 16, .int .u64 0, .int .u64 0, .slice none 0 0, .slice none 0 0] rfl rfl hwld.out.1 hwld.out.2.1 Tryz.isAgg27 Tryz.sizeOf27 Tryz.isAgg75 Tryz.sizeOf75) rfl ?_
        exact ApRet.err hr.out hz8.out hkok.out hlow.out.below.size hwld.out.2.2.1 hwld.out.2.2.2
      · rw [e2]
        rw [e1] at hbase
        obtain ⟨x, hx⟩ : ∃ x, m.seats[i] = x := ⟨_, rfl⟩
        have hb2 : Hid (applyM m q = if q.number ≤ x.last then (m, ocE 14) else finM (doesM (seatPut m i q.number) q)) := Lib.hid (by
          rw [hbase.out]; dsimp only; rw [List.getElem?_eq_getElem hi, hx]; rfl)
        obtain ⟨gs, cap, hv, -, -, hcells⟩ := (hz8.out.own 5 rfl).cells hi
        injection hv with hv1 hv2 hv3
        rw [hx] at hcells
        rw [hv1] at k3
        have c1 : w5.cell? ⟨gs, i * 5 + 1, none⟩ = some (.int .u64 x.last) := hcells 1 (by decide)
        have hi0 : (0 : Int) ≤ (i : Int) := by omega
        have hi1 : (i : Int) < (m.seats.length : Int) := by omega
        replace hx := Lib.hid hx
        clear e1 e2 hbase hcells hv2 hv3
        by_cases hnum : q.number ≤ x.last
        · have hnum' : (q.number : Int) ≤ (x.last : Int) := by omega
          have hr : Hid (applyM m q = (m, ocE 14)) := Lib.hid (by rw [hb2.out, if_pos hnum])
          clear hb2 hnum hv1
          go_wp2_with fail
          go_upto_region 9 with fail
          go_cut [58] (fun v58 wx => v58 = .bool true ∧ Hid (Zoo W1 wx (workL wb k m q y oc0)))
          case first =>
            go_quiet (fail)
            go_wp2_with fail
            go_meet
            case rel => exact ⟨rfl, Lib.hid (hz8.out.below (below_drewN (Below.refl _ _) nq))⟩
          case rest =>
          clear hz8 k3 r2 c1
          obtain ⟨rfl, hz8⟩ := hcut
          obtain ⟨hbx, -⟩ := hz8.out.box 0 rfl
          have kk0 : wc.cell? ⟨wb, 0, none⟩ = some (.slice k.ab k.bs.length k.cb) := box_cell hbx 0
          have kk1 : wc.cell? ⟨wb, 1, none⟩ = some (.int .u64 m.nv) := box_cell hbx 1
          have kk2 : wc.cell? ⟨wb, 2, none⟩ = some (.slice k.ah m.homes.length k.ch) := box_cell hbx 2
          have kk3 : wc.cell? ⟨wb, 3, none⟩ = some (.slice k.as_ m.seats.length k.cs) := box_cell hbx 3
          have kk4 : wc.cell? ⟨wb, 4, none⟩ = some (.int .u64 m.ns) := box_cell hbx 4
          have kk5 : wc.cell? ⟨wb, 5, none⟩ = some (.int .u64 m.sweeps) := box_cell hbx 5
          have hlo := hlow.out.at_ hz8.out.bel
          have za0 : wc.cell? ⟨R1, 0, none⟩ = some (.slice none 0 0) := box_cell hlo.1 0
          have za1 : wc.cell? ⟨R1, 1, none⟩ = some (.int .u64 0) := box_cell hlo.1 1
          have za2 : wc.cell? ⟨R1, 2, none⟩ = some (.slice none 0 0) := box_cell hlo.1 2
          have za3 : wc.cell? ⟨R1, 3, none⟩ = some (.slice none 0 0) := box_cell hlo.1 3
          have za4 : wc.cell? ⟨R1, 4, none⟩ = some (.int .u64 0) := box_cell hlo.1 4
          have za5 : wc.cell? ⟨R1, 5, none⟩ = some (.int .u64 0) := box_cell hlo.1 5
          have fa0 : wc.frozen? ⟨R1, 0, none⟩ = false := box_free hlo.1 0
          have fa1 : wc.frozen? ⟨R1, 1, none⟩ = false := box_free hlo.1 1
          have fa2 : wc.frozen? ⟨R1, 2, none⟩ = false := box_free hlo.1 2
          have fa3 : wc.frozen? ⟨R1, 3, none⟩ = false := box_free hlo.1 3
          have fa4 : wc.frozen? ⟨R1, 4, none⟩ = false := box_free hlo.1 4
          have fa5 : wc.frozen? ⟨R1, 5, none⟩ = false := box_free hlo.1 5
          have zb0 : wc.cell? ⟨R2, 0, none⟩ = some (.int .i64 0) := box_cell hlo.2.1 0
          have zb1 : wc.cell? ⟨R2, 1, none⟩ = some (.int .u64 0) := box_cell hlo.2.1 1
          have zb2 : wc.cell? ⟨R2, 2, none⟩ = some (.int .u64 0) := box_cell hlo.2.1 2
          have zb3 : wc.cell? ⟨R2, 3, none⟩ = some (.slice none 0 0) := box_cell hlo.2.1 3
          have zb4 : wc.cell? ⟨R2, 4, none⟩ = some (.slice none 0 0) := box_cell hlo.2.1 4
          have fb0 : wc.frozen? ⟨R2, 0, none⟩ = false := box_free hlo.2.1 0
          have fb1 : wc.frozen? ⟨R2, 1, none⟩ = false := box_free hlo.2.1 1
          have fb2 : wc.frozen? ⟨R2, 2, none⟩ = false := box_free hlo.2.1 2
          have fb3 : wc.frozen? ⟨R2, 3, none⟩ = false := box_free hlo.2.1 3
          have fb4 : wc.frozen? ⟨R2, 4, none⟩ = false := box_free hlo.2.1 4
          have hne1 := hlow.out.ne
          have hne2 := hlow.out.ne.symm
          have hwld := Lib.hid (ap_world hlo.1 hlo.2.1 hlow.out.ne hlow.out.below hz8.out.bel hlow.out.l1 hlow.out.l2 hlow.out.u1 hlow.out.u2 [.slice k.ab k.bs.length k.cb, .int .u64 m.nv, .slice k.ah m.homes.length k.ch, .slice k.as_ m.seats.length k.cs, .int .u64 m.ns, .int .u64 m.sweeps] [.int .i64 14, .int .u64 0, .int .u64 0, .slice none 0 0, .slice none 0 0] rfl rfl)
          simp only [World.setCells, Nat.zero_add] at hwld
          clear hbx hlo
          go_wp2_with fail
          refine bodyPost_ret (results_cells2 rfl _ _ R1 R2 [.slice k.ab k.bs.length k.cb, .int .u64 m.nv, .slice k.ah m.homes.length k.ch, .slice k.as_ m.seats.length k.cs, .int .u64 m.ns, .int .u64 m.sweeps] [.int .i64 14, .int .u64 0, .int .u64 0, .slice none 0 0, .slice none 0 0] rfl rfl hwld.out.1 hwld.out.2.1 Tryz.isAgg27 Tryz.sizeOf27 Tryz.isAgg75 Tryz.sizeOf75) rfl ?_
          exact ApRet.err hr.out hz8.out hkok.out hlow.out.below.size hwld.out.2.2.1 hwld.out.2.2.2
        · have hnum' : decide ((q.number : Int) ≤ (x.last : Int)) = false := decide_eq_false (by omega)
          have hr : Hid (applyM m q = finM (doesM (seatPut m i q.number) q)) := Lib.hid (by rw [hb2.out, if_neg hnum])
          replace hnum := Lib.hid hnum
          clear hb2
          go_upto_region 9 with fail
          go_cut [58] (fun v58 wx => v58 = .bool false ∧ Hid (Zoo W1 wx (workL wb k m q y oc0)))
          case first =>
            go_quiet (fail)
            go_wp2_with fail
            go_meet
            case rel => exact ⟨by rw [decide_eq_false hnum.out], Lib.hid (hz8.out.below (below_drewN (Below.refl _ _) nq))⟩
          case rest =>
          clear hz8 k3 r2 c1
          obtain ⟨rfl, hz8⟩ := hcut
          have hzd := hz8.out.drew
          obtain ⟨hbx, -⟩ := hzd.box 0 rfl
          obtain ⟨-, -, hrbx, -⟩ := hlow.out.at_ hzd.bel
          have k3 : wc.drew.cell? ⟨wb, 3, none⟩ = some (.slice k.as_ m.seats.length k.cs) := box_cell hbx 3
          have r2 : wc.drew.cell? ⟨RB, 2, none⟩ = some (.int .u64 q.number) := box_cell hrbx 2
          rw [hv1] at k3
          obtain ⟨gs', cap', hv, -, -, hcells, hfr, hz9⟩ := hzd.putField 5 rfl i hi 1 (by decide) (.int .u64 q.number) { x with last := q.number } (by rw [hx.out]; rfl)
          injection hv with hva hvb hvc
          rw [hv1] at hva
          injection hva with hva
          injection hva with hva
          subst hva
          have hset : (seatPut m i q.number).seats = m.seats.set i { x with last := q.number } := by
            unfold seatPut
            dsimp only
            rw [modify_set _ _ _ hi, hx.out]
          have c1 : wc.drew.cell? ⟨gs, i * 5 + 1, none⟩ = some (.int .u64 x.last) := by have := hcells 1 (by decide); rw [hx.out] at this; exact this
          have f1 := hfr (i * 5 + 1)
          obtain ⟨m2, hm2⟩ : ∃ m2, seatPut m i q.number = m2 := ⟨_, rfl⟩
          have hz10 : Zoo W1 (wc.drew.setCell ⟨gs, i * 5 + 1, none⟩ (.int .u64 q.number)) (workL wb k m2 q y oc0) := by
            rw [← hm2]
            have e : workL wb k (seatPut m i q.number) q y oc0 = (workL wb k m q y oc0).set 5 (stT.row (.slice k.as_ m.seats.length k.cs) (m.seats.set i { x with last := q.number })) := by
              unfold workL stateL workCells
              rw [hset, List.length_set]; rfl
            rw [e]
            exact hz9
          have hm3 : Hid (ApSt m2) := Lib.hid (by rw [← hm2]; exact hm.out.put i q.number)
          have hk3 : Hid (WkOk k m2) := Lib.hid (by rw [← hm2]; exact hkok.out)
          rw [hm2] at hr
          replace hz10 := Lib.hid hz10
          clear hbx hrbx hcells hfr hz9 hset hm2 hvb hvc hzd hz8
          go_wp2_with fail
          refine wp_region_hd (fun w' => w'.cell? ⟨wb, 3, none⟩ = some (.slice (some ⟨gs, 0, none⟩) m.seats.length k.cs) ∧ w'.cell? ⟨RB, 2, none⟩ = some (.int .u64 q.number)) 8 3 (by kernel_rfl) rfl ⟨by kernel_rfl, by kernel_rfl, by kernel_rfl, by decide⟩ ⟨k3, r2⟩ (fun hok hS0 => ?_)
          generalize wc.drew = Wd3 at *
          refine Hd.take (i := 0) (v := ?tv234) hok rfl (by kernel_rfl) (fun _ _ _ h => h) (Or.inl ⟨by rfl, ?ty234⟩) (by assumption) ?tr234
          case ty234 => (intro w hSw; (try dsimp only at hSw); go_simp; (try with_reducible rfl))
          try simp only [List.getElem_toArray, List.getElem_cons_succ, List.getElem_cons_zero, Act.put, List.setIfInBounds_toArray, List.set_cons_zero, List.set_cons_succ]
          refine Hd.take (i := 1) (v := ?tv235) hok rfl (by kernel_rfl) (fun _ _ _ h => h) (Or.inl ⟨by rfl, ?ty235⟩) (by assumption) ?tr235
          case ty235 => (intro w hSw; (try dsimp only at hSw); go_simp; (try with_reducible rfl))
          try simp only [List.getElem_toArray, List.getElem_cons_succ, List.getElem_cons_zero, Act.put, List.setIfInBounds_toArray, List.set_cons_zero, List.set_cons_succ]
          refine Hd.take (i := 2) (v := ?tv236) hok rfl (by kernel_rfl) (fun _ _ _ h => h) (Or.inl ⟨by rfl, ?ty236⟩) (by assumption) ?tr236
          case ty236 => (intro w hSw; (try dsimp only at hSw); go_simp; (try with_reducible rfl))
          try simp only [List.getElem_toArray, List.getElem_cons_succ, List.getElem_cons_zero, Act.put, List.setIfInBounds_toArray, List.set_cons_zero, List.set_cons_succ]
          refine Hd.take (i := 3) (v := ?tv237) hok rfl (by kernel_rfl) (fun _ _ _ h => h) (Or.inl ⟨by rfl, ?ty237⟩) (by assumption) ?tr237
          case ty237 => (intro w hSw; (try dsimp only at hSw); go_simp; (try with_reducible rfl))
          try simp only [List.getElem_toArray, List.getElem_cons_succ, List.getElem_cons_zero, Act.put, List.setIfInBounds_toArray, List.set_cons_zero, List.set_cons_succ]
          refine Hd.take (i := 4) (v := ?tv238) hok rfl (by kernel_rfl) (fun _ _ _ h => h) (Or.inl ⟨by rfl, ?ty238⟩) (by assumption) ?tr238
          case ty238 => (intro w hSw; (try dsimp only at hSw); go_simp; (try with_reducible rfl))
          try simp only [List.getElem_toArray, List.getElem_cons_succ, List.getElem_cons_zero, Act.put, List.setIfInBounds_toArray, List.set_cons_zero, List.set_cons_succ]
          refine Hd.take (i := 5) (v := ?tv239) hok rfl (by kernel_rfl) (fun _ _ _ h => h) (Or.inl ⟨by rfl, ?ty239⟩) (by assumption) ?tr239
          case ty239 => (intro w hSw; (try dsimp only at hSw); go_simp; (try with_reducible rfl))
          try simp only [List.getElem_toArray, List.getElem_cons_succ, List.getElem_cons_zero, Act.put, List.setIfInBounds_toArray, List.set_cons_zero, List.set_cons_succ]
          refine Hd.take (i := 6) (v := ?tv240) hok rfl (by kernel_rfl) (fun _ _ _ h => h) (Or.inl ⟨by rfl, ?ty240⟩) (by assumption) ?tr240
          case ty240 => (intro w hSw; (try dsimp only at hSw); go_simp; (try with_reducible rfl))
          try simp only [List.getElem_toArray, List.getElem_cons_succ, List.getElem_cons_zero, Act.put, List.setIfInBounds_toArray, List.set_cons_zero, List.set_cons_succ]
          refine Hd.take (i := 7) (v := ?tv241) hok rfl (by kernel_rfl) (fun _ _ _ h => h) (Or.inl ⟨by rfl, ?ty241⟩) (by assumption) ?tr241
          case ty241 => (intro w hSw; (try dsimp only at hSw); go_simp; (try with_reducible rfl))
          try simp only [List.getElem_toArray, List.getElem_cons_succ, List.getElem_cons_zero, Act.put, List.setIfInBounds_toArray, List.set_cons_zero, List.set_cons_succ]
          refine Hd.done (by kernel_rfl) ?_
          simp only [List.drop_succ_cons, List.drop_zero]
          clear hok hS0 k3 r2 hv1
          go_wp2_with fail
          go_meet
          case rel => exact ⟨m2, k, hm3, hr, hk3, hz10⟩
  case rest =>
  clear hz7 hbase hm hkok
  obtain ⟨m2, k2, hm, hr, hkok, hz⟩ := hcut
  obtain ⟨-, -, hrbx, hdbx⟩ := hlow.out.at_ hz.out.bel
  have r0 : wc.cell? ⟨RB, 0, none⟩ = some (.int .i64 (n : Int)) := by rw [← hop.out]; exact box_cell hrbx 0
  obtain ⟨fn, hfn, heg, hdoes⟩ := does_any hz.out hkok.out hm.out hqi.out hq.out n hop.out hn1 hn2
  have d0 : wc.cell? ⟨DB, n, none⟩ = some (.func (.func fn) #[] #[]) := by rw [box_cell hdbx n, List.getElem?_toArray]; exact hfn
  have hn0 : (0 : Int) ≤ (n : Int) := by omega
  have hn11 : (n : Int) < 11 := by omega
  obtain ⟨res, hres⟩ : ∃ res, doesM m2 q = res := ⟨_, rfl⟩
  rw [hres] at hdoes hr
  replace hdoes := Lib.hid hdoes
  clear hrbx hdbx hfn hres hz hkok hm hB
  go_wp2_with fail
  refine hdoes.out.mono ?_
  rintro e w9 ⟨o', ho', k', rfl, hkok, hz⟩
  clear hdoes r0 d0
  obtain ⟨code, m3, o3⟩ := res
  dsimp only at ho' hkok hz ⊢
  by_cases hc : code = 0
  · subst hc
    have hoo := ho' rfl
    subst hoo
    have hrF : Hid (applyM m q = (m3, o')) := Lib.hid (by rw [hr.out]; rfl)
    clear ho' hr
    go_upto_region 15 with fail
    have hzd := hz.out.drew
    have hlo := hlow.out.at_ hzd.bel
    obtain ⟨hbx, -⟩ := hzd.box 0 rfl
    have za0 : w9.drew.cell? ⟨R1, 0, none⟩ = some (.slice none 0 0) := box_cell hlo.1 0
    have za1 : w9.drew.cell? ⟨R1, 1, none⟩ = some (.int .u64 0) := box_cell hlo.1 1
    have za2 : w9.drew.cell? ⟨R1, 2, none⟩ = some (.slice none 0 0) := box_cell hlo.1 2
    have za3 : w9.drew.cell? ⟨R1, 3, none⟩ = some (.slice none 0 0) := box_cell hlo.1 3
    have za4 : w9.drew.cell? ⟨R1, 4, none⟩ = some (.int .u64 0) := box_cell hlo.1 4
    have za5 : w9.drew.cell? ⟨R1, 5, none⟩ = some (.int .u64 0) := box_cell hlo.1 5
    have fa0 : w9.drew.frozen? ⟨R1, 0, none⟩ = false := box_free hlo.1 0
    have fa1 : w9.drew.frozen? ⟨R1, 1, none⟩ = false := box_free hlo.1 1
    have fa2 : w9.drew.frozen? ⟨R1, 2, none⟩ = false := box_free hlo.1 2
    have fa3 : w9.drew.frozen? ⟨R1, 3, none⟩ = false := box_free hlo.1 3
    have fa4 : w9.drew.frozen? ⟨R1, 4, none⟩ = false := box_free hlo.1 4
    have fa5 : w9.drew.frozen? ⟨R1, 5, none⟩ = false := box_free hlo.1 5
    have zb0 : w9.drew.cell? ⟨R2, 0, none⟩ = some (.int .i64 0) := box_cell hlo.2.1 0
    have zb1 : w9.drew.cell? ⟨R2, 1, none⟩ = some (.int .u64 0) := box_cell hlo.2.1 1
    have zb2 : w9.drew.cell? ⟨R2, 2, none⟩ = some (.int .u64 0) := box_cell hlo.2.1 2
    have zb3 : w9.drew.cell? ⟨R2, 3, none⟩ = some (.slice none 0 0) := box_cell hlo.2.1 3
    have zb4 : w9.drew.cell? ⟨R2, 4, none⟩ = some (.slice none 0 0) := box_cell hlo.2.1 4
    have fb0 : w9.drew.frozen? ⟨R2, 0, none⟩ = false := box_free hlo.2.1 0
    have fb1 : w9.drew.frozen? ⟨R2, 1, none⟩ = false := box_free hlo.2.1 1
    have fb2 : w9.drew.frozen? ⟨R2, 2, none⟩ = false := box_free hlo.2.1 2
    have fb3 : w9.drew.frozen? ⟨R2, 3, none⟩ = false := box_free hlo.2.1 3
    have fb4 : w9.drew.frozen? ⟨R2, 4, none⟩ = false := box_free hlo.2.1 4
    have hne1 := hlow.out.ne
    have hne2 := hlow.out.ne.symm
    have hwld := Lib.hid (ap_world hlo.1 hlo.2.1 hlow.out.ne hlow.out.below hzd.bel hlow.out.l1 hlow.out.l2 hlow.out.u1 hlow.out.u2 [.slice k'.ab k'.bs.length k'.cb, .int .u64 m3.nv, .slice k'.ah m3.homes.length k'.ch, .slice k'.as_ m3.seats.length k'.cs, .int .u64 m3.ns, .int .u64 m3.sweeps] [.int .i64 o'.code, .int .u64 o'.session, .int .u64 o'.validity, .slice k'.aU o'.uids.length k'.cU, .slice k'.aM o'.mods.length k'.cM] rfl rfl)
    have hwb1 : wb ≠ R1 := fun e => by
      have := (hzd.box 0 rfl).2
      have := hlow.out.u1
      omega
    replace hbx := Lib.hid hbx
    replace hzd := Lib.hid hzd
    clear hlo
    refine wp_region_hd (fun w' => Hid (w'.heap[wb]? = some (.cells (workCells k' m3 q y o').toArray 97 (0, 0)))) 9 1 (by kernel_rfl) rfl ⟨by kernel_rfl, by kernel_rfl, by kernel_rfl, by decide⟩ hbx (fun hok hS0 => ?_)
    generalize w9.drew = Wd9 at *
    refine Hd.take (i := 0) (v := ?tv242) hok rfl (by kernel_rfl) (fun _ _ _ h => h) (Or.inl ⟨by rfl, ?ty242⟩) (by assumption) ?tr242
    case ty242 => (intro w hSw; (try dsimp only at hSw); go_simp; (try with_reducible rfl))
    try simp only [List.getElem_toArray, List.getElem_cons_succ, List.getElem_cons_zero, Act.put, List.setIfInBounds_toArray, List.set_cons_zero, List.set_cons_succ]
    refine Hd.take (i := 1) (v := ?tv243) hok rfl (by kernel_rfl) (fun _ _ _ h => h) (Or.inl ⟨by rfl, ?ty243⟩) (by assumption) ?tr243
    case ty243 => (intro w hSw; (try dsimp only at hSw); go_simp; (try with_reducible rfl))
    try simp only [List.getElem_toArray, List.getElem_cons_succ, List.getElem_cons_zero, Act.put, List.setIfInBounds_toArray, List.set_cons_zero, List.set_cons_succ]
    refine Hd.take (i := 2) (v := ?tv244) hok rfl (by kernel_rfl) (fun _ _ _ h => h) (Or.inl ⟨by rfl, ?ty244⟩) (by assumption) ?tr244
    case ty244 => (intro w hSw; (try dsimp only at hSw); go_simp; (try with_reducible rfl))
    try simp only [List.getElem_toArray, List.getElem_cons_succ, List.getElem_cons_zero, Act.put, List.setIfInBounds_toArray, List.set_cons_zero, List.set_cons_succ]
    refine Hd.take (i := 3) (v := .agg ([.slice k'.ab k'.bs.length k'.cb, .int .u64 m3.nv, .slice k'.ah m3.homes.length k'.ch, .slice k'.as_ m3.seats.length k'.cs, .int .u64 m3.ns, .int .u64 m3.sweeps] : List Value).toArray) hok rfl (by kernel_rfl) (fun _ _ _ h => h) (yields_load_cells 27 (.tmp 102) rfl wb 0 [.slice k'.ab k'.bs.length k'.cb, .int .u64 m3.nv, .slice k'.ah m3.homes.length k'.ch, .slice k'.as_ m3.seats.length k'.cs, .int .u64 m3.ns, .int .u64 m3.sweeps] (by rfl) Tryz.isAgg27 Tryz.sizeOf27 rfl (fun W hS => work_six hS.out)) (by assumption) ?_
    try simp only [List.getElem_toArray, List.getElem_cons_succ, List.getElem_cons_zero, Act.put, List.setIfInBounds_toArray, List.set_cons_zero, List.set_cons_succ]
    refine Hd.take (i := 4) (v := ?tv245) hok rfl (by kernel_rfl) (fun _ _ _ h => h) (Or.inl ⟨by rfl, ?ty245⟩) (by assumption) ?tr245
    case ty245 => (intro w hSw; (try dsimp only at hSw); go_simp; (try with_reducible rfl))
    try simp only [List.getElem_toArray, List.getElem_cons_succ, List.getElem_cons_zero, Act.put, List.setIfInBounds_toArray, List.set_cons_zero, List.set_cons_succ]
    refine Hd.take (i := 5) (v := ?tv246) hok rfl (by kernel_rfl) (fun _ _ _ h => h) (Or.inl ⟨by rfl, ?ty246⟩) (by assumption) ?tr246
    case ty246 => (intro w hSw; (try dsimp only at hSw); go_simp; (try with_reducible rfl))
    try simp only [List.getElem_toArray, List.getElem_cons_succ, List.getElem_cons_zero, Act.put, List.setIfInBounds_toArray, List.set_cons_zero, List.set_cons_succ]
    refine Hd.take (i := 6) (v := ?tv247) hok rfl (by kernel_rfl) (fun _ _ _ h => h) (Or.inl ⟨by rfl, ?ty247⟩) (by assumption) ?tr247
    case ty247 => (intro w hSw; (try dsimp only at hSw); go_simp; (try with_reducible rfl))
    try simp only [List.getElem_toArray, List.getElem_cons_succ, List.getElem_cons_zero, Act.put, List.setIfInBounds_toArray, List.set_cons_zero, List.set_cons_succ]
    refine Hd.take (i := 7) (v := .agg ([.int .i64 o'.code, .int .u64 o'.session, .int .u64 o'.validity, .slice k'.aU o'.uids.length k'.cU, .slice k'.aM o'.mods.length k'.cM] : List Value).toArray) hok rfl (by kernel_rfl) (fun _ _ _ h => h) (yields_load_cells 75 (.tmp 106) rfl wb 23 [.int .i64 o'.code, .int .u64 o'.session, .int .u64 o'.validity, .slice k'.aU o'.uids.length k'.cU, .slice k'.aM o'.mods.length k'.cM] (by rfl) Tryz.isAgg75 Tryz.sizeOf75 rfl (fun W hS => work_five hS.out)) (by assumption) ?_
    try simp only [List.getElem_toArray, List.getElem_cons_succ, List.getElem_cons_zero, Act.put, List.setIfInBounds_toArray, List.set_cons_zero, List.set_cons_succ]
    refine Hd.one (i := 8) rfl (by kernel_rfl) (fun K hK => ?_)
    go_simp
    have hkb := KeptB.sets [.slice k'.ab k'.bs.length k'.cb, .int .u64 m3.nv, .slice k'.ah m3.homes.length k'.ch, .slice k'.as_ m3.seats.length k'.cs, .int .u64 m3.ns, .int .u64 m3.sweeps] 0 (KeptB.refl Wd9 R1)
    simp only [World.setCells, Nat.zero_add] at hkb hwld
    refine hK _ _ (Lib.hid ((hkb.block wb hwb1).trans hbx.out)) ?_
    clear hK K hkb
    try simp only [List.getElem_toArray, List.getElem_cons_succ, List.getElem_cons_zero, Act.put, List.setIfInBounds_toArray, List.set_cons_zero, List.set_cons_succ]
    refine Hd.done (by kernel_rfl) ?_
    simp only [List.drop_succ_cons, List.drop_zero]
    clear hok hS0 hbx
    go_wp2_with fail
    refine bodyPost_ret (results_cells2 rfl _ _ R1 R2 [.slice k'.ab k'.bs.length k'.cb, .int .u64 m3.nv, .slice k'.ah m3.homes.length k'.ch, .slice k'.as_ m3.seats.length k'.cs, .int .u64 m3.ns, .int .u64 m3.sweeps] [.int .i64 o'.code, .int .u64 o'.session, .int .u64 o'.validity, .slice k'.aU o'.uids.length k'.cU, .slice k'.aM o'.mods.length k'.cM] rfl rfl hwld.out.1 hwld.out.2.1 Tryz.isAgg27 Tryz.sizeOf27 Tryz.isAgg75 Tryz.sizeOf75) rfl ?_
    rw [hrF.out]
    have hend := ap_end hzd.out hkok.out hlow.out.below.size hwld.out.2.2.2
    exact ⟨_, _, rfl, Lib.hid hend.1, Lib.hid hend.2, Lib.hid hwld.out.2.2.1⟩
  · have hrF : Hid (applyM m q = (m3, ocE code)) := Lib.hid (by rw [hr.out]; unfold finM; rw [if_neg hc])
    have hc' : (code != 0) = true := bne_iff_ne.2 hc
    replace hc := Lib.hid hc
    clear hr ho'
    obtain ⟨hbx, -⟩ := hz.out.box 0 rfl
    have kk0 : w9.cell? ⟨wb, 0, none⟩ = some (.slice k'.ab k'.bs.length k'.cb) := box_cell hbx 0
    have kk1 : w9.cell? ⟨wb, 1, none⟩ = some (.int .u64 m3.nv) := box_cell hbx 1
    have kk2 : w9.cell? ⟨wb, 2, none⟩ = some (.slice k'.ah m3.homes.length k'.ch) := box_cell hbx 2
    have kk3 : w9.cell? ⟨wb, 3, none⟩ = some (.slice k'.as_ m3.seats.length k'.cs) := box_cell hbx 3
    have kk4 : w9.cell? ⟨wb, 4, none⟩ = some (.int .u64 m3.ns) := box_cell hbx 4
    have kk5 : w9.cell? ⟨wb, 5, none⟩ = some (.int .u64 m3.sweeps) := box_cell hbx 5
    have hlo := hlow.out.at_ hz.out.bel
    have za0 : w9.cell? ⟨R1, 0, none⟩ = some (.slice none 0 0) := box_cell hlo.1 0
    have za1 : w9.cell? ⟨R1, 1, none⟩ = some (.int .u64 0) := box_cell hlo.1 1
    have za2 : w9.cell? ⟨R1, 2, none⟩ = some (.slice none 0 0) := box_cell hlo.1 2
    have za3 : w9.cell? ⟨R1, 3, none⟩ = some (.slice none 0 0) := box_cell hlo.1 3
    have za4 : w9.cell? ⟨R1, 4, none⟩ = some (.int .u64 0) := box_cell hlo.1 4
    have za5 : w9.cell? ⟨R1, 5, none⟩ = some (.int .u64 0) := box_cell hlo.1 5
    have fa0 : w9.frozen? ⟨R1, 0, none⟩ = false := box_free hlo.1 0
    have fa1 : w9.frozen? ⟨R1, 1, none⟩ = false := box_free hlo.1 1
    have fa2 : w9.frozen? ⟨R1, 2, none⟩ = false := box_free hlo.1 2
    have fa3 : w9.frozen? ⟨R1, 3, none⟩ = false := box_free hlo.1 3
    have fa4 : w9.frozen? ⟨R1, 4, none⟩ = false := box_free hlo.1 4
    have fa5 : w9.frozen? ⟨R1, 5, none⟩ = false := box_free hlo.1 5
    have zb0 : w9.cell? ⟨R2, 0, none⟩ = some (.int .i64 0) := box_cell hlo.2.1 0
    have zb1 : w9.cell? ⟨R2, 1, none⟩ = some (.int .u64 0) := box_cell hlo.2.1 1
    have zb2 : w9.cell? ⟨R2, 2, none⟩ = some (.int .u64 0) := box_cell hlo.2.1 2
    have zb3 : w9.cell? ⟨R2, 3, none⟩ = some (.slice none 0 0) := box_cell hlo.2.1 3
    have zb4 : w9.cell? ⟨R2, 4, none⟩ = some (.slice none 0 0) := box_cell hlo.2.1 4
    have fb0 : w9.frozen? ⟨R2, 0, none⟩ = false := box_free hlo.2.1 0
    have fb1 : w9.frozen? ⟨R2, 1, none⟩ = false := box_free hlo.2.1 1
    have fb2 : w9.frozen? ⟨R2, 2, none⟩ = false := box_free hlo.2.1 2
    have fb3 : w9.frozen? ⟨R2, 3, none⟩ = false := box_free hlo.2.1 3
    have fb4 : w9.frozen? ⟨R2, 4, none⟩ = false := box_free hlo.2.1 4
    have hne1 := hlow.out.ne
    have hne2 := hlow.out.ne.symm
    have hwld := Lib.hid (ap_world hlo.1 hlo.2.1 hlow.out.ne hlow.out.below hz.out.bel hlow.out.l1 hlow.out.l2 hlow.out.u1 hlow.out.u2 [.slice k'.ab k'.bs.length k'.cb, .int .u64 m3.nv, .slice k'.ah m3.homes.length k'.ch, .slice k'.as_ m3.seats.length k'.cs, .int .u64 m3.ns, .int .u64 m3.sweeps] [.int .i64 code, .int .u64 0, .int .u64 0, .slice none 0 0, .slice none 0 0] rfl rfl)
    simp only [World.setCells, Nat.zero_add] at hwld
    clear hbx hlo
    go_wp2_with fail
    refine bodyPost_ret (results_cells2 rfl _ _ R1 R2 [.slice k'.ab k'.bs.length k'.cb, .int .u64 m3.nv, .slice k'.ah m3.homes.length k'.ch, .slice k'.as_ m3.seats.length k'.cs, .int .u64 m3.ns, .int .u64 m3.sweeps] [.int .i64 code, .int .u64 0, .int .u64 0, .slice none 0 0, .slice none 0 0] rfl rfl hwld.out.1 hwld.out.2.1 Tryz.isAgg27 Tryz.sizeOf27 Tryz.isAgg75 Tryz.sizeOf75) rfl ?_
    exact ApRet.err hrF.out hz.out hkok.out hlow.out.below.size hwld.out.2.2.1 hwld.out.2.2.2
end Go.Proofs.YtcnebfmlelcliaaGreat
