/- named, meant: walked. A work's mailboxes turned one by one: plain. Loads and stores of many cells at once. The document's side of flags, walked: Canon, place, less, Has, With. Lists of flags that the call makes: With, Make of both, Same. Make, of the program and of the document; Same. Print; what every right program answers: alive; and the walk of FlagMakes. -/
import Derived.Test.YtcnebfmlelcliaaGreatB07
import Derived.Test.YtcnebfmlelcliaaGreatB03
import Derived.Deep.QuietTactic
import Derived.BigQuiet
namespace Go.Proofs.YtcnebfmlelcliaaGreat
set_option linter.unusedSimpArgs false
open Go.RowKit
attribute [local go_sem ↓] Go.wp_at_zero Go.wp_at_succ

/-- where the named mailbox stands, if it is still that one -/
def namedI (m : Ml) (q : Rq) : Option Nat := match m.boxes.findIdx? (fun x => x.name.toList == q.box.toList) with
  | none => none
  | some i => if (m.boxes[i]?).map Bx.validity = some q.validity then some i else none
def NamedRet (W0 W : World) (wb : Nat) (k : WkV) (m : Ml) (q : Rq) (y : RqV) (o : Oc) (e : Ending) (w' : World) : Prop := Hid (Zoo W0 w' (workL wb k m q y o)) ∧ Hid (Below W.heap.size W w') ∧ match namedI m q with
  | none => e = .returned (.tuple #[.pointer none, .bool false])
  | some i => ∃ g, k.ab = some ⟨g, 0, none⟩ ∧ e = .returned (.tuple #[.pointer (some ⟨g, i * 5, none⟩), .bool true])
theorem WkOk.get {k : WkV} {m : Ml} (h : WkOk k m) {i : Nat} (hi : i < k.bs.length) : m.boxes[i]? = some (k.bs[i].b) := by
  rw [← h.1, List.getElem?_map, List.getElem?_eq_getElem hi]; rfl
set_option maxRecDepth 100000 in
set_option maxHeartbeats 8000000 in
theorem named_any {W0 W : World} {wb : Nat} {k : WkV} {m : Ml} {q : Rq} {y : RqV} {o : Oc} (hz : Zoo W0 W (workL wb k m q y o)) (hk : WkOk k m) (hl : m.boxes.length ≤ 1000) :
    Calls Tryz.prog 71 #[.pointer (some ⟨wb, 0, none⟩)] W (NamedRet W0 W wb k m q y o) := by
  have hat := Lib.hid (workAt hz.drew hk hl q.box)
  obtain ⟨hbx, -⟩ := hz.drew.box 0 rfl
  have k0 : W.drew.cell? ⟨wb, 0, none⟩ = some (.slice k.ab k.bs.length k.cb) := box_cell hbx 0
  have k1 : W.drew.cell? ⟨wb, 1, none⟩ = some (.int .u64 m.nv) := box_cell hbx 1
  have k2 : W.drew.cell? ⟨wb, 2, none⟩ = some (.slice k.ah m.homes.length k.ch) := box_cell hbx 2
  have k3 : W.drew.cell? ⟨wb, 3, none⟩ = some (.slice k.as_ m.seats.length k.cs) := box_cell hbx 3
  have k4 : W.drew.cell? ⟨wb, 4, none⟩ = some (.int .u64 m.ns) := box_cell hbx 4
  have k5 : W.drew.cell? ⟨wb, 5, none⟩ = some (.int .u64 m.sweeps) := box_cell hbx 5
  have k12 : W.drew.cell? ⟨wb, 12, none⟩ = some (.string q.box) := box_cell hbx 12
  replace hk := Lib.hid hk
  have hbd := Lib.hid ((Below.refl W.heap.size W).drew)
  replace hz := Lib.hid hz.drew
  clear hbx
  go_enter Tryz.func71, Tryz.ntmps71
  go_wp2_with fail
  refine wp_region_hd (fun w' => w'.cell? ⟨wb, 0, none⟩ = some (.slice k.ab k.bs.length k.cb) ∧ w'.cell? ⟨wb, 1, none⟩ = some (.int .u64 m.nv) ∧ w'.cell? ⟨wb, 2, none⟩ = some (.slice k.ah m.homes.length k.ch) ∧ w'.cell? ⟨wb, 3, none⟩ = some (.slice k.as_ m.seats.length k.cs) ∧ w'.cell? ⟨wb, 4, none⟩ = some (.int .u64 m.ns) ∧ w'.cell? ⟨wb, 5, none⟩ = some (.int .u64 m.sweeps) ∧ w'.cell? ⟨wb, 12, none⟩ = some (.string q.box)) 10 1 (by kernel_rfl) rfl ⟨by kernel_rfl, by kernel_rfl, by kernel_rfl, by decide⟩ ⟨k0, k1, k2, k3, k4, k5, k12⟩ (fun hok hS0 => ?_)
  refine Hd.take (i := 0) (v := ?tv34) hok rfl (by kernel_rfl) (fun _ _ _ h => h) (Or.inl ⟨by rfl, ?ty34⟩) (by assumption) ?tr34
  case ty34 => (intro w hSw; (try dsimp only at hSw); go_simp; (try with_reducible rfl))
  try simp only [List.getElem_toArray, List.getElem_cons_succ, List.getElem_cons_zero, Act.put, List.setIfInBounds_toArray, List.set_cons_zero, List.set_cons_succ]
  refine Hd.take (i := 1) (v := ?tv35) hok rfl (by kernel_rfl) (fun _ _ _ h => h) (Or.inl ⟨by rfl, ?ty35⟩) (by assumption) ?tr35
  case ty35 => (intro w hSw; (try dsimp only at hSw); go_simp; (try with_reducible rfl))
  try simp only [List.getElem_toArray, List.getElem_cons_succ, List.getElem_cons_zero, Act.put, List.setIfInBounds_toArray, List.set_cons_zero, List.set_cons_succ]
  refine Hd.take (i := 2) (v := ?tv36) hok rfl (by kernel_rfl) (fun _ _ _ h => h) (Or.inl ⟨by rfl, ?ty36⟩) (by assumption) ?tr36
  case ty36 => (intro w hSw; (try dsimp only at hSw); go_simp; (try with_reducible rfl))
  try simp only [List.getElem_toArray, List.getElem_cons_succ, List.getElem_cons_zero, Act.put, List.setIfInBounds_toArray, List.set_cons_zero, List.set_cons_succ]
  refine Hd.take (i := 3) (v := ?tv37) hok rfl (by kernel_rfl) (fun _ _ _ h => h) (Or.inl ⟨by rfl, ?ty37⟩) (by assumption) ?tr37
  case ty37 => (intro w hSw; (try dsimp only at hSw); go_simp; (try with_reducible rfl))
  try simp only [List.getElem_toArray, List.getElem_cons_succ, List.getElem_cons_zero, Act.put, List.setIfInBounds_toArray, List.set_cons_zero, List.set_cons_succ]
  refine Hd.take (i := 4) (v := ?tv38) hok rfl (by kernel_rfl) (fun _ _ _ h => h) (Or.inl ⟨by rfl, ?ty38⟩) (by assumption) ?tr38
  case ty38 => (intro w hSw; (try dsimp only at hSw); go_simp; (try with_reducible rfl))
  try simp only [List.getElem_toArray, List.getElem_cons_succ, List.getElem_cons_zero, Act.put, List.setIfInBounds_toArray, List.set_cons_zero, List.set_cons_succ]
  refine Hd.take (i := 5) (v := ?tv39) hok rfl (by kernel_rfl) (fun _ _ _ h => h) (Or.inl ⟨by rfl, ?ty39⟩) (by assumption) ?tr39
  case ty39 => (intro w hSw; (try dsimp only at hSw); go_simp; (try with_reducible rfl))
  try simp only [List.getElem_toArray, List.getElem_cons_succ, List.getElem_cons_zero, Act.put, List.setIfInBounds_toArray, List.set_cons_zero, List.set_cons_succ]
  refine Hd.take (i := 6) (v := ?tv40) hok rfl (by kernel_rfl) (fun _ _ _ h => h) (Or.inl ⟨by rfl, ?ty40⟩) (by assumption) ?tr40
  case ty40 => (intro w hSw; (try dsimp only at hSw); go_simp; (try with_reducible rfl))
  try simp only [List.getElem_toArray, List.getElem_cons_succ, List.getElem_cons_zero, Act.put, List.setIfInBounds_toArray, List.set_cons_zero, List.set_cons_succ]
  refine Hd.take (i := 7) (v := ?tv41) hok rfl (by kernel_rfl) (fun _ _ _ h => h) (Or.inl ⟨by rfl, ?ty41⟩) (by assumption) ?tr41
  case ty41 => (intro w hSw; (try dsimp only at hSw); go_simp; (try with_reducible rfl))
  try simp only [List.getElem_toArray, List.getElem_cons_succ, List.getElem_cons_zero, Act.put, List.setIfInBounds_toArray, List.set_cons_zero, List.set_cons_succ]
  refine Hd.take (i := 8) (v := ?tv42) hok rfl (by kernel_rfl) (fun _ _ _ h => h) (Or.inl ⟨by rfl, ?ty42⟩) (by assumption) ?tr42
  case ty42 => (intro w hSw; (try dsimp only at hSw); go_simp; (try with_reducible rfl))
  try simp only [List.getElem_toArray, List.getElem_cons_succ, List.getElem_cons_zero, Act.put, List.setIfInBounds_toArray, List.set_cons_zero, List.set_cons_succ]
  refine Hd.one (i := 9) rfl (by kernel_rfl) (fun K hK => ?_)
  go_simp
  refine hat.out.mono ?_
  rintro e w3 ⟨rfl, hb3⟩
  dsimp only
  have hz3 := hz.out.below hb3.out
  obtain ⟨hbx, -⟩ := hz3.box 0 rfl
  clear k0 k1 k2 k3 k4 k5 k12
  have k0 : w3.cell? ⟨wb, 0, none⟩ = some (.slice k.ab k.bs.length k.cb) := box_cell hbx 0
  have k1 : w3.cell? ⟨wb, 1, none⟩ = some (.int .u64 m.nv) := box_cell hbx 1
  have k2 : w3.cell? ⟨wb, 2, none⟩ = some (.slice k.ah m.homes.length k.ch) := box_cell hbx 2
  have k3 : w3.cell? ⟨wb, 3, none⟩ = some (.slice k.as_ m.seats.length k.cs) := box_cell hbx 3
  have k4 : w3.cell? ⟨wb, 4, none⟩ = some (.int .u64 m.ns) := box_cell hbx 4
  have k5 : w3.cell? ⟨wb, 5, none⟩ = some (.int .u64 m.sweeps) := box_cell hbx 5
  have k12 : w3.cell? ⟨wb, 12, none⟩ = some (.string q.box) := box_cell hbx 12
  refine hK _ _ ⟨k0, k1, k2, k3, k4, k5, k12⟩ ?_
  clear hK K
  try simp only [List.getElem_toArray, List.getElem_cons_succ, List.getElem_cons_zero, Act.put, List.setIfInBounds_toArray, List.set_cons_zero, List.set_cons_succ]
  refine Hd.done (by kernel_rfl) ?_
  simp only [List.drop_succ_cons, List.drop_zero]
  have k14 : w3.cell? ⟨wb, 14, none⟩ = some (.int .u64 q.validity) := box_cell hbx 14
  have hB := Lib.hid (hbd.out.trans (hb3.out.mono (Nat.le_refl _)))
  clear hat hz hok hS0 hb3 k1 k2 k3 k4 k5 k12 hbx hbd
  unfold atM
  rcases findIdx_cases (fun x : Bx => x.name.toList == q.box.toList) m.boxes with ⟨e1, e2⟩ | ⟨i, hi, e1, e2⟩
  · rw [e2]
    have hr : Hid (namedI m q = none) := Lib.hid (by unfold namedI; rw [e1])
    replace hz3 := Lib.hid hz3
    clear e2 e1
    go_wp2_with fail
    go_quiet (fail)
    go_wp2_with fail
    go_ret2
    refine ⟨Lib.hid (hz3.out.below (below_drewN (Below.refl _ _) nq)), Lib.hid (below_drewN hB.out nq), ?_⟩
    rw [hr.out]
    rfl
  · rw [e2]
    have hil : i < k.bs.length := by rw [hk.out.len]; exact hi
    have hgm := hk.out.get hil
    have hnm : Hid (namedI m q = if k.bs[i].validity = q.validity then some i else none) := Lib.hid (by
      unfold namedI; rw [e1]; dsimp only; rw [hgm, Option.map_some]
      simp only [Option.some.injEq]; rfl)
    obtain ⟨g, cap, hv, -, hg, hcells⟩ := (hz3.own 3 rfl).cells hil
    injection hv with hv1 hv2 hv3
    rw [hv1] at k0
    have r1 := hcells 1 (by decide)
    replace r1 : w3.cell? ⟨g, i * 5 + 1, none⟩ = some (.int .u64 k.bs[i].validity) := r1
    generalize hxv : k.bs[i].validity = xv at r1 hnm
    replace hz3 := Lib.hid hz3
    have hi0 : (0 : Int) ≤ (i : Int) := by omega
    have hil2 : (i : Int) < (k.bs.length : Int) := by omega
    replace hv1 := Lib.hid hv1
    clear e2 e1 hgm hcells hv2 hv3 hxv
    cases hq : ((xv : Int) == (q.validity : Int)) with
    | true =>
      have hq2 : ((xv : Int) != (q.validity : Int)) = false := by simp only [bne, hq, Bool.not_true]
      go_wp2_with fail
      go_quiet (fail)
      go_wp2_with fail
      go_ret2
      refine ⟨Lib.hid (hz3.out.below (below_drewN (Below.refl _ _) nq)), Lib.hid (below_drewN hB.out nq), ?_⟩
      rw [hnm.out, if_pos (by have := eq_of_beq hq; omega)]
      exact ⟨g, hv1.out, rfl⟩
    | false =>
      have hq2 : ((xv : Int) != (q.validity : Int)) = true := by simp only [bne, hq, Bool.not_false]
      go_wp2_with fail
      go_quiet (fail)
      go_wp2_with fail
      go_ret2
      refine ⟨Lib.hid (hz3.out.below (below_drewN (Below.refl _ _) nq)), Lib.hid (below_drewN hB.out nq), ?_⟩
      rw [hnm.out, if_neg (fun h => by rw [h] at hq; simp at hq)]
      rfl
/-- the greatest number of a mailbox: the last one's -/
def mostB (l : List Lt) : Nat := match l.getLast? with
  | none => 0
  | some x => x.uid
/-- is a letter meant by a request? -/
def meantB (l : List Lt) (q : Rq) (x : Lt) : Bool := hasL q.uids (mostB l) x.uid
theorem mostB_pos {l : List LtV} (h : 0 < l.length) : mostB (l.map LtV.x) = (l[l.length - 1]'(by omega)).x.uid := by
  unfold mostB
  rw [List.getLast?_eq_getElem?, List.getElem?_map, List.length_map, List.getElem?_eq_getElem (by omega)]; rfl
/-- the closure, and what it has captured -/
def MeantRet (W : World) (wb : Nat) (most : Nat) (e : Ending) (w' : World) : Prop := ∃ c d, e = .returned (.func (.func 100) #[] #[.pointer (some ⟨c, 0, none⟩), .pointer (some ⟨d, 0, none⟩)]) ∧ Hid (w'.heap[c]? = some (.cells #[.pointer (some ⟨wb, 0, none⟩)] 93 (0, 0)) ∧ w'.heap[d]? = some (.cells #[.int .u64 most] 23 (0, 0)) ∧ W.heap.size ≤ c ∧ W.heap.size ≤ d ∧ c ≠ d) ∧ Hid (Below W.heap.size W w')
theorem meantRet_at (W : World) (wb n : Nat) : MeantRet W wb n (.returned (.func (.func 100) #[] #[.pointer (some ⟨W.heap.size, 0, none⟩), .pointer (some ⟨W.heap.size + 1, 0, none⟩)])) ((W.alloc (.cells #[.pointer (some ⟨wb, 0, none⟩)] 93)).alloc (.cells #[.int .u64 n] 23)) := by
  have hz := ((Zoo.nil W).newBox #[.pointer (some ⟨wb, 0, none⟩)] 93).newBox #[.int .u64 n] 23
  have hs1 : (W.alloc (.cells #[.pointer (some ⟨wb, 0, none⟩)] 93)).heap.size = W.heap.size + 1 := by simp
  rw [hs1] at hz
  exact ⟨W.heap.size, W.heap.size + 1, rfl, Lib.hid ⟨(hz.box 1 rfl).1, (hz.box 0 rfl).1, Nat.le_refl _, by omega, by omega⟩, Lib.hid hz.bel⟩
set_option maxRecDepth 100000 in
set_option maxHeartbeats 8000000 in
theorem meant_any {W : World} {wb g i : Nat} {l : List LtV} {a : Option Addr} {c : Nat} (hb : W.cell? ⟨g, i * 5 + 4, none⟩ = some (.slice a l.length c)) (hr : Rd W (.slice a l.length c) l.length (ltT.cells l)) (hl : l.length ≤ 100000) :
    Calls Tryz.prog 72 #[.pointer (some ⟨wb, 0, none⟩), .pointer (some ⟨g, i * 5, none⟩)] W (MeantRet W wb (mostB (l.map LtV.x))) := by
  have hglt := World.block_lt_of_cell? _ _ hb
  dsimp only at hglt
  have hg1 : g ≠ W.heap.size := by omega
  have hg2 : g ≠ W.heap.size + 1 := by omega
  rcases Nat.eq_zero_or_pos l.length with h0 | hpos
  · have e0 : l = [] := List.eq_nil_of_length_eq_zero h0
    subst e0
    clear hr h0
    rw [List.length_nil] at hb
    go_enter Tryz.func72, Tryz.ntmps72
    go_wp2_with fail
    go_ret
    exact meantRet_at W wb 0
  · have hm := mostB_pos hpos
    obtain ⟨b, o, cap, hv, -, hblt, hcells⟩ := ltT.rd_cells hr (show l.length - 1 < l.length from by omega)
    injection hv with hv1 hv2 hv3
    subst hv1 hv3
    have r0 := hcells 0 (.int .u64 (l[l.length - 1]'(by omega)).x.uid) rfl
    replace r0 : W.cell? ⟨b, o + (l.length - 1) * 5, none⟩ = some (.int .u64 (l[l.length - 1]'(by omega)).x.uid) := r0
    rw [← hm] at r0
    generalize mostB (l.map LtV.x) = most at *
    have hb1 : b ≠ W.heap.size := by omega
    have hb2 : b ≠ W.heap.size + 1 := by omega
    have hp1 : (0 : Int) < (l.length : Int) := by omega
    have hp2 : (0 : Int) ≤ (l.length : Int) - 1 := by omega
    have hp3 : (l.length : Int) - 1 < (l.length : Int) := by omega
    clear hcells hr hm
    go_enter Tryz.func72, Tryz.ntmps72
    go_wp2_with fail
    go_ret
    exact meantRet_at W wb most
set_option maxRecDepth 100000 in
set_option maxHeartbeats 8000000 in
/-- the closure of meant -/
theorem meant1_any {W : World} (x : LtV) (c d wb : Nat) (rs : List (Nat × Nat)) (au : Option Addr) (cu most : Nat) (h1 : W.cell? ⟨c, 0, none⟩ = some (.pointer (some ⟨wb, 0, none⟩))) (h2 : W.cell? ⟨wb, 15, none⟩ = some (.slice au rs.length cu)) (h3 : W.cell? ⟨d, 0, none⟩ = some (.int .u64 most)) (hr : RangesIn W W.heap.size (.slice au rs.length cu) rs) (hl : rs.length ≤ 100000) :
    Calls Tryz.prog 100 #[.agg (ltT.enc x).toArray, .pointer (some ⟨c, 0, none⟩), .pointer (some ⟨d, 0, none⟩)] W fun e w' => e = .returned (.bool (hasL rs most x.x.uid)) ∧ Hid (Below W.heap.size W w') := by
  have l1 := World.block_lt_of_cell? _ _ h1
  have l2 := World.block_lt_of_cell? _ _ h2
  have l3 := World.block_lt_of_cell? _ _ h3
  dsimp only at l1 l2 l3
  have hb := (Below.refl _ W).alloc (Nat.le_refl _) (.cells (ltCells x).toArray 66)
  have hb2 := hb.drew
  have hc := Lib.hid (setHas_any rs (.slice au rs.length cu) most x.x.uid _ (by omega) (hr.on hb2))
  obtain ⟨hx, -⟩ := ((Zoo.nil W).newBox (ltCells x).toArray 66).drew.box 0 rfl
  have r0 : (W.alloc (.cells (ltCells x).toArray 66)).drew.cell? ⟨W.heap.size, 0, none⟩ = some (.int .u64 x.x.uid) := box_cell hx 0
  replace h1 := (hb2.cell (p := ⟨c, 0, none⟩) l1).trans h1
  replace h2 := (hb2.cell (p := ⟨wb, 15, none⟩) l2).trans h2
  replace h3 := (hb2.cell (p := ⟨d, 0, none⟩) l3).trans h3
  replace hb := Lib.hid hb2
  clear hb2 hr hx
  show Calls Tryz.prog 100 #[.agg #[.int .u64 x.x.uid, .slice x.a x.x.flags.length x.c, .int .u64 x.x.mod, .string x.x.hash, .int .u64 x.x.size], .pointer (some ⟨c, 0, none⟩), .pointer (some ⟨d, 0, none⟩)] W _
  unfold ltCells LtV.v at *
  obtain ⟨B, hB⟩ : ∃ B, W.heap.size = B := ⟨_, rfl⟩
  rw [hB] at r0
  have l4 := World.block_lt_of_cell? _ _ r0
  generalize hW1 : (W.alloc (.cells [Value.int .u64 x.x.uid, .slice x.a x.x.flags.length x.c, .int .u64 x.x.mod, .string x.x.hash, .int .u64 x.x.size].toArray 66)) = W1 at *
  dsimp only at l4
  have l1' : c < W1.drew.heap.size := World.block_lt_of_cell? _ _ h1
  have l2' : wb < W1.drew.heap.size := World.block_lt_of_cell? _ _ h2
  have l3' : d < W1.drew.heap.size := World.block_lt_of_cell? _ _ h3
  clear l1 l2 l3
  go_enter Tryz.func100, Tryz.ntmps100
  go_wp2_with fail
  refine wp_region_hd (fun w' => w'.cell? ⟨c, 0, none⟩ = some (.pointer (some ⟨wb, 0, none⟩)) ∧ w'.cell? ⟨wb, 15, none⟩ = some (.slice au rs.length cu) ∧ w'.cell? ⟨d, 0, none⟩ = some (.int .u64 most) ∧ w'.cell? ⟨B, 0, none⟩ = some (.int .u64 x.x.uid)) 9 1 (by kernel_rfl) rfl ⟨by kernel_rfl, by kernel_rfl, by kernel_rfl, by decide⟩ ⟨h1, h2, h3, r0⟩ (fun hok hS0 => ?_)
  refine Hd.take (i := 0) (v := ?tv43) hok rfl (by kernel_rfl) (fun _ _ _ h => h) (Or.inl ⟨by rfl, ?ty43⟩) (by assumption) ?tr43
  case ty43 => (intro w hSw; (try dsimp only at hSw); go_simp; (try with_reducible rfl))
  try simp only [List.getElem_toArray, List.getElem_cons_succ, List.getElem_cons_zero, Act.put, List.setIfInBounds_toArray, List.set_cons_zero, List.set_cons_succ]
  refine Hd.take (i := 1) (v := ?tv44) hok rfl (by kernel_rfl) (fun _ _ _ h => h) (Or.inl ⟨by rfl, ?ty44⟩) (by assumption) ?tr44
  case ty44 => (intro w hSw; (try dsimp only at hSw); go_simp; (try with_reducible rfl))
  try simp only [List.getElem_toArray, List.getElem_cons_succ, List.getElem_cons_zero, Act.put, List.setIfInBounds_toArray, List.set_cons_zero, List.set_cons_succ]
  refine Hd.take (i := 2) (v := ?tv45) hok rfl (by kernel_rfl) (fun _ _ _ h => h) (Or.inl ⟨by rfl, ?ty45⟩) (by assumption) ?tr45
  case ty45 => (intro w hSw; (try dsimp only at hSw); go_simp; (try with_reducible rfl))
  try simp only [List.getElem_toArray, List.getElem_cons_succ, List.getElem_cons_zero, Act.put, List.setIfInBounds_toArray, List.set_cons_zero, List.set_cons_succ]
  refine Hd.take (i := 3) (v := ?tv46) hok rfl (by kernel_rfl) (fun _ _ _ h => h) (Or.inl ⟨by rfl, ?ty46⟩) (by assumption) ?tr46
  case ty46 => (intro w hSw; (try dsimp only at hSw); go_simp; (try with_reducible rfl))
  try simp only [List.getElem_toArray, List.getElem_cons_succ, List.getElem_cons_zero, Act.put, List.setIfInBounds_toArray, List.set_cons_zero, List.set_cons_succ]
  refine Hd.take (i := 4) (v := ?tv47) hok rfl (by kernel_rfl) (fun _ _ _ h => h) (Or.inl ⟨by rfl, ?ty47⟩) (by assumption) ?tr47
  case ty47 => (intro w hSw; (try dsimp only at hSw); go_simp; (try with_reducible rfl))
  try simp only [List.getElem_toArray, List.getElem_cons_succ, List.getElem_cons_zero, Act.put, List.setIfInBounds_toArray, List.set_cons_zero, List.set_cons_succ]
  refine Hd.take (i := 5) (v := ?tv48) hok rfl (by kernel_rfl) (fun _ _ _ h => h) (Or.inl ⟨by rfl, ?ty48⟩) (by assumption) ?tr48
  case ty48 => (intro w hSw; (try dsimp only at hSw); go_simp; (try with_reducible rfl))
  try simp only [List.getElem_toArray, List.getElem_cons_succ, List.getElem_cons_zero, Act.put, List.setIfInBounds_toArray, List.set_cons_zero, List.set_cons_succ]
  refine Hd.take (i := 6) (v := ?tv49) hok rfl (by kernel_rfl) (fun _ _ _ h => h) (Or.inl ⟨by rfl, ?ty49⟩) (by assumption) ?tr49
  case ty49 => (intro w hSw; (try dsimp only at hSw); go_simp; (try with_reducible rfl))
  try simp only [List.getElem_toArray, List.getElem_cons_succ, List.getElem_cons_zero, Act.put, List.setIfInBounds_toArray, List.set_cons_zero, List.set_cons_succ]
  refine Hd.take (i := 7) (v := ?tv50) hok rfl (by kernel_rfl) (fun _ _ _ h => h) (Or.inl ⟨by rfl, ?ty50⟩) (by assumption) ?tr50
  case ty50 => (intro w hSw; (try dsimp only at hSw); go_simp; (try with_reducible rfl))
  try simp only [List.getElem_toArray, List.getElem_cons_succ, List.getElem_cons_zero, Act.put, List.setIfInBounds_toArray, List.set_cons_zero, List.set_cons_succ]
  refine Hd.one (i := 8) rfl (by kernel_rfl) (fun K hK => ?_)
  go_simp
  refine hc.out.mono ?_
  rintro e w3 ⟨rfl, hb3⟩
  dsimp only
  refine hK _ _ ⟨(hb3.cell (p := ⟨c, 0, none⟩) l1').trans h1, (hb3.cell (p := ⟨wb, 15, none⟩) l2').trans h2, (hb3.cell (p := ⟨d, 0, none⟩) l3').trans h3, (hb3.cell (p := ⟨B, 0, none⟩) l4).trans r0⟩ ?_
  clear hK K
  try simp only [List.getElem_toArray, List.getElem_cons_succ, List.getElem_cons_zero, Act.put, List.setIfInBounds_toArray, List.set_cons_zero, List.set_cons_succ]
  refine Hd.done (by kernel_rfl) ?_
  simp only [List.drop_succ_cons, List.drop_zero]
  have hB2 := Lib.hid (hb.out.trans (hb3.mono (by have := hb.out.size; omega)))
  clear hb hb3 hc hok hS0 h1 h2 h3 r0 l1' l2' l3' l4
  go_wp2_with fail
  go_ret
  exact ⟨rfl, hB2⟩
end Go.Proofs.YtcnebfmlelcliaaGreat
namespace Go.Proofs.YtcnebfmlelcliaaGreat
set_option linter.unusedSimpArgs false
open Go.RowKit

def setB (k : WkV) (i : Nat) (x : BxV) : WkV := { k with bs := k.bs.set i x }
def setM (m : Ml) (i : Nat) (b : Bx) : Ml := { m with boxes := m.boxes.set i b }
def addS (k : WkV) (p : Value × List (List UInt8)) : WkV := { k with S := p :: k.S }
section
variable {W0 W : World} {wb : Nat} {k : WkV} {m : Ml} {q : Rq} {y : RqV} {o : Oc} {E : List Th}
theorem letsL_set (bs : List BxV) (i : Nat) (x : BxV) : letsL (bs.set i x) = (letsL bs).set i (ltT.row x.v x.rows) := by
  unfold letsL
  rw [List.map_set]
theorem letsL_get {bs : List BxV} {i : Nat} (hi : i < bs.length) : (letsL bs)[i]? = some (ltT.row bs[i].v bs[i].rows) := by
  unfold letsL
  rw [List.getElem?_map, List.getElem?_eq_getElem hi]; rfl
theorem work_set_eq (i : Nat) (hi : i < k.bs.length) (x : BxV) :
    ((workL wb k m q y o ++ E).set (i + 7) (ltT.row x.v x.rows)).set 3 (bxT.row (.slice k.ab k.bs.length k.cb) (k.bs.set i x)) = workL wb (setB k i x) (setM m i x.b) q y o ++ E := by
  unfold workL stateL setB setM workCells
  dsimp only
  rw [List.length_set, letsL_set]
  show _ :: _ :: _ :: _ :: _ :: _ :: _ :: ((letsL k.bs ++ E).set i _) = _ :: _ :: _ :: _ :: _ :: _ :: _ :: ((letsL k.bs).set i _ ++ E)
  rw [List.set_append_left _ _ (by unfold letsL; rw [List.length_map]; exact hi)]
theorem work_same (i : Nat) (hi : i < k.bs.length) (x : BxV) (hr : x.rows = k.bs[i].rows) (hv : x.v = k.bs[i].v) : (workL wb k m q y o ++ E).set (i + 7) (ltT.row x.v x.rows) = workL wb k m q y o ++ E := by
  rw [hr, hv]
  unfold workL stateL
  show _ :: _ :: _ :: _ :: _ :: _ :: _ :: ((letsL k.bs ++ E).set i _) = _ :: _ :: _ :: _ :: _ :: _ :: _ :: (letsL k.bs ++ E)
  rw [List.set_append_left _ _ (by unfold letsL; rw [List.length_map]; exact hi)]
  have : (letsL k.bs).set i (ltT.row k.bs[i].v k.bs[i].rows) = letsL k.bs := by
    rw [← letsL_set]
    rw [List.set_getElem_self]
  rw [this]
/-- the letters' row of a mailbox -/
theorem work_let (i : Nat) (hi : i < k.bs.length) : (workL wb k m q y o ++ E)[i + 7]? = some (ltT.row k.bs[i].v k.bs[i].rows) := by
  unfold workL stateL
  show (letsL k.bs ++ E)[i]? = _
  rw [List.getElem?_append_left (by unfold letsL; rw [List.length_map]; exact hi), letsL_get hi]
structure BoxAt (W : World) (g i : Nat) (x : BxV) : Prop where
  c0 : W.cell? ⟨g, i * 5, none⟩ = some (.string x.name)
  c1 : W.cell? ⟨g, i * 5 + 1, none⟩ = some (.int .u64 x.validity)
  c2 : W.cell? ⟨g, i * 5 + 2, none⟩ = some (.int .u64 x.next)
  c3 : W.cell? ⟨g, i * 5 + 3, none⟩ = some (.int .u64 x.high)
  c4 : W.cell? ⟨g, i * 5 + 4, none⟩ = some (.slice x.a x.rows.length x.c)
/-- what the cells of a mailbox say -/
theorem work_box {L : List Th} (hz : Zoo W0 W L) (h3 : L[3]? = some (bxT.row (.slice k.ab k.bs.length k.cb) k.bs)) {i : Nat} (hi : i < k.bs.length) : ∃ g, k.ab = some ⟨g, 0, none⟩ ∧ g < W.heap.size ∧ BoxAt W g i k.bs[i] ∧ ∀ j, W.frozen? ⟨g, j, none⟩ = false := by
  obtain ⟨g, cap, rest, hv, -, hg, hrow, -⟩ := (hz.own 3 h3).row (by omega)
  injection hv with e1 e2 e3
  exact ⟨g, e1, hg, ⟨hrow.cell i 0 hi (by decide), hrow.cell i 1 hi (by decide), hrow.cell i 2 hi (by decide), hrow.cell i 3 hi (by decide), hrow.cell i 4 hi (by decide)⟩, hrow.free⟩
/-- a field of a mailbox is written, its letters' row being what it will be -/
theorem work_store {i : Nat} (hi : i < k.bs.length) (x : BxV) (hz : Zoo W0 W ((workL wb k m q y o ++ E).set (i + 7) (ltT.row x.v x.rows))) {g : Nat} (hg : k.ab = some ⟨g, 0, none⟩) (r : Nat) (hr : r < 5) (u : Value) (hx : bxT.enc x = (bxT.enc k.bs[i]).set r u) :
    Zoo W0 (W.setCell ⟨g, i * 5 + r, none⟩ u) (workL wb (setB k i x) (setM m i x.b) q y o ++ E) := by
  obtain ⟨g', cap, hv, -, -, -, -, hz2⟩ := hz.putField 3 rfl i hi r hr u x hx
  injection hv with e1 e2 e3
  rw [hg] at e1
  injection e1 with e1
  injection e1 with e1
  subst e1
  rw [work_set_eq i hi x] at hz2
  exact hz2
theorem work_store' {i : Nat} (hi : i < k.bs.length) (x : BxV) (hz : Zoo W0 W (workL wb k m q y o ++ E)) (hrow : x.rows = k.bs[i].rows) (hv : x.v = k.bs[i].v) {g : Nat} (hg : k.ab = some ⟨g, 0, none⟩) (r : Nat) (hr : r < 5) (u : Value) (hx : bxT.enc x = (bxT.enc k.bs[i]).set r u) :
    Zoo W0 (W.setCell ⟨g, i * 5 + r, none⟩ u) (workL wb (setB k i x) (setM m i x.b) q y o ++ E) :=
  work_store hi x (by rw [work_same i hi x hrow hv]; exact hz) hg r hr u hx
theorem WkOk.set {i : Nat} (h : WkOk k m) (x : BxV) (hx : HasL k.S x.rows) : WkOk (setB k i x) (setM m i x.b) := by
  refine ⟨?_, fun z hz => ?_⟩
  · show (k.bs.set i x).map BxV.b = m.boxes.set i x.b
    rw [List.map_set, h.1]
  · rcases List.mem_or_eq_of_mem_set hz with hz | rfl
    · exact h.2 z hz
    · exact hx
theorem WkOk.add {p : Value × List (List UInt8)} (h : WkOk k m) : WkOk (addS k p) m := ⟨h.1, fun z hz w hw => List.mem_cons_of_mem _ (h.2 z hz w hw)⟩
theorem work_addFl {W' : World} {v : Value} {l : List (List UInt8)} (hz : Zoo W0 W (workL wb k m q y o ++ E)) (hb : Below W.heap.size W W') (hr : FlIn W' v l) (hf : ∀ g, v.ownBlock = some g → W.heap.size ≤ g) : Zoo W0 W' (workL wb (addS k (v, l)) m q y o ++ E) := hz.addFl 6 rfl hb hr hf
theorem work_done (hz : Zoo W0 W (workL wb k m q y o ++ E)) : Zoo W0 W (workL wb k m q y o) := hz.sub (List.sublist_append_left _ _)
theorem work_extra {t : Th} (hz : Zoo W0 W (t :: workL wb k m q y o)) : Zoo W0 W (workL wb k m q y o ++ [t]) := hz.perm (List.perm_append_singleton _ _).symm
/-- the outcome's uids in a row that is new -/
theorem work_newU {l : List Nat} {a : Option Addr} {c : Nat} (hz : Zoo W0 W (u64T.row (.slice a l.length c) l :: (workL wb k m q y o ++ E))) : Zoo W0 (W.setCell ⟨wb, 26, none⟩ (.slice a l.length c)) (workL wb { k with aU := a, cU := c } m q y { o with uids := l } ++ E) := by
  have h2 := hz.setBox 1 rfl 26 (.slice a l.length c)
  have h3 := h2.swap
  refine h3.sub ?_
  exact List.Sublist.cons_cons _ (List.Sublist.cons_cons _ (List.Sublist.cons _ (List.Sublist.refl _)))
end
end Go.Proofs.YtcnebfmlelcliaaGreat
namespace Go.Proofs.YtcnebfmlelcliaaGreat
set_option linter.unusedSimpArgs false
open Go.RowKit

section
variable {P : Program} {ops : Array Oper} {S : World → Prop}
theorem exec_load_cells {o : Oper} {ρ : Operand → Value} (t : TypeId) (x : Operand) (ho : o.op = .load t x) (b off : Nat) (cs : List Value) (hx : ρ x = .pointer (some ⟨b, off, none⟩)) (hagg : ∀ w, (isAgg t).run P w = .ok true w) (hsz : ∀ w, (Go.sizeOf t).run P w = .ok cs.length w) (W : World) (h : ∀ j v, cs[j]? = some v → W.cell? ⟨b, off + j, none⟩ = some v) : (execOp ρ o).run P W = .ok (.value (.agg cs.toArray)) W := by
  have := run_loadCells_list (P := P) W ⟨b, off, none⟩ cs (fun j v hj => by rw [Addr.add_lit]; exact h j v hj)
  simp [execOp, ho, Instr.loadAt, Instr.sureAddr, hx, loadVar, hagg, hsz, this]
theorem yields_load_cells {o : Oper} {a : Act} (t : TypeId) (x : Operand) (ho : o.op = .load t x) (b off : Nat) (cs : List Value) (hx : a.eval x = .pointer (some ⟨b, off, none⟩)) (hagg : ∀ w, (isAgg t).run P w = .ok true w) (hsz : ∀ w, (Go.sizeOf t).run P w = .ok cs.length w) (hgd : o.guard = none) (h : ∀ W, S W → ∀ j v, cs[j]? = some v → W.cell? ⟨b, off + j, none⟩ = some v) : YieldsIf P ops S o (.agg cs.toArray) a :=
  .inl ⟨by simp [Region.wanted, hgd], fun w hw => exec_load_cells t x ho b off cs hx hagg hsz w (h w hw)⟩
theorem wpList_load_cells {o : Oper} {rest : List Oper} {a : Act} {w : World} {Q : Exit → Act → World → Prop} (hgd : o.guard = none) (t : TypeId) (x : Operand) (ho : o.op = .load t x) (b off : Nat) (cs : List Value) (hx : a.eval x = .pointer (some ⟨b, off, none⟩)) (hagg : ∀ w, (isAgg t).run P w = .ok true w) (hsz : ∀ w, (Go.sizeOf t).run P w = .ok cs.length w) (h : ∀ j v, cs[j]? = some v → w.cell? ⟨b, off + j, none⟩ = some v)
    (hK : wpList P ops Q rest (a.put o.dst (.agg cs.toArray)) w) : wpList P ops Q (o :: rest) a w :=
  wpList_plain hgd fun K hK' => by
    have h1 := exec_load_cells (P := P) (ρ := a.eval) t x ho b off cs hx hagg hsz w h
    unfold Oper.wp
    simp only [h1, Result.andThen]
    exact hK' _ _ hK
theorem exec_store_cells {o : Oper} {ρ : Operand → Value} (t : TypeId) (x u : Operand) (ho : o.op = .store t x u) (b off : Nat) (cs : List Value) (hx : ρ x = .pointer (some ⟨b, off, none⟩)) (hu : ρ u = .agg cs.toArray) (hsz : ∀ w, (Go.sizeOf t).run P w = .ok cs.length w) (h1 : ∀ v ∈ cs, v.oneCell' = true) (W : World) (hc : ∀ j, j < cs.length → (W.cell? ⟨b, off + j, none⟩).isSome = true) (hf : ∀ j, W.frozen? ⟨b, j, none⟩ = false) : ∃ n, (execOp ρ o).run P W = .ok n (W.setCells b off cs) ∧ n = .skip := by
  have := run_storeCells_cells (P := P) b off cs 0 W (by simpa using hc) (fun j _ => hf _) h1
  simp only [Nat.add_zero] at this
  refine ⟨_, ?_, rfl⟩
  simp [execOp, ho, Instr.storeAt, Instr.sureAddr, hx, hu, storeVar, hsz, Value.cells, this]
theorem wpList_store_cells {o : Oper} {rest : List Oper} {a : Act} {w : World} {Q : Exit → Act → World → Prop} (hgd : o.guard = none) (t : TypeId) (x u : Operand) (ho : o.op = .store t x u) (b off : Nat) (cs : List Value) (hx : a.eval x = .pointer (some ⟨b, off, none⟩)) (hu : a.eval u = .agg cs.toArray) (hsz : ∀ w, (Go.sizeOf t).run P w = .ok cs.length w) (h1 : ∀ v ∈ cs, v.oneCell' = true) (hc : ∀ j, j < cs.length → (w.cell? ⟨b, off + j, none⟩).isSome = true) (hf : ∀ j, w.frozen? ⟨b, j, none⟩ = false)
    (hK : wpList P ops Q rest (a.put o.dst undef) (w.setCells b off cs)) : wpList P ops Q (o :: rest) a w :=
  wpList_plain hgd fun K hK' => by
    obtain ⟨n, h2, rfl⟩ := exec_store_cells (P := P) (ρ := a.eval) t x u ho b off cs hx hu hsz h1 w hc hf
    unfold Oper.wp
    simp only [h2, Result.andThen]
    exact hK' _ _ hK
end
/-- all cells of a block are written -/
theorem Zoo.fillBox {W0 W : World} {L : List Th} {B : Nat} {C : List Value} {t : TypeId} (h : Zoo W0 W L) (i : Nat) (hi : L[i]? = some (boxT B C.toArray t)) (cs : List Value) (hl : cs.length = C.length) : Zoo W0 (W.setCells B 0 cs) (L.set i (boxT B cs.toArray t)) := by
  obtain ⟨F, ⟨h1, hF⟩, hlow, hact⟩ := h.act i _ hi
  have h2 := heap_setCells cs 0 C W h1 (by omega)
  rw [List.take_zero, List.nil_append, Nat.zero_add, hl, List.drop_length, List.append_nil] at h2
  have hk : KeptB W B (W.setCells B 0 cs) := KeptB.sets _ _ (KeptB.refl W B)
  exact hact _ F _ ⟨h2, hF⟩ ⟨hk.os, hk.tape, hk.output, Nat.le_of_eq hk.size.symm, fun k hk1 hn => hk.block k (fun e => hn ((hF k).2 e)), fun k hk1 => .inl hk1⟩
theorem Zoo.boxSome {W0 W : World} {L : List Th} {B : Nat} {C : List Value} {t : TypeId} (h : Zoo W0 W L) (i : Nat) (hi : L[i]? = some (boxT B C.toArray t)) : (∀ j, j < C.length → (W.cell? ⟨B, 0 + j, none⟩).isSome = true) ∧ ∀ j, W.frozen? ⟨B, j, none⟩ = false := by
  obtain ⟨h1, -⟩ := h.box i hi
  refine ⟨fun j hj => ?_, box_free h1⟩
  rw [Nat.zero_add, box_cell h1 j, List.getElem?_toArray, List.getElem?_eq_getElem hj]; rfl
end Go.Proofs.YtcnebfmlelcliaaGreat
namespace Go.Proofs.YtcnebfmlelcliaaGreat
open Go.RowKit

set_option maxRecDepth 100000 in
set_option maxHeartbeats 2000000 in
theorem refCanon_any (s : ByteArray) (hs0 : s.size ≤ maxLen) (w : World) : Calls Tryz.prog 84 #[.string s] w (CanonRet s.data.toList w) := by
  have hs9 := Lib.hid hs0
  clear hs0
  have kb := run_conv_one (P := Tryz.prog) 152 9 5 Tryz.underlying152 Tryz.underlying5 Tryz.underlying9
  go_enter Tryz.func84, Tryz.ntmps84
  go_wp2_with fail
  go_loopw [4] (fun vk wr => ∃ k : Nat, vk = .int .i64 k ∧ k ≤ 5 ∧ Hid (∀ j, j < k → isSys s.data.toList j = false) ∧ Hid (Below w.heap.size w wr)) (fun vk _ => 5 - (intOf vk).toNat)
  case atStart => exact ⟨0, rfl, by omega, Lib.hid (fun j h => absurd h (Nat.not_lt_zero _)), Lib.hid (Below.refl _ _)⟩
  case round =>
    obtain ⟨k, rfl, hk, hno, hb⟩ := hrel
    by_cases hk5 : k < 5
    · go_wp2_with fail
      refine (refSystem_any k hk5 wr).mono ?_
      rintro e w' ⟨rfl, rfl⟩
      go_wp2_with fail
      refine (refUpperS_any (mkB (sysL.getD k [])) (sys_le k hk5) wr).mono ?_
      rintro e w2 ⟨U1, rfl, hU1, hb1⟩
      go_wp2_with fail
      refine (refUpperS_any s hs9.out w2).mono ?_
      rintro e w3 ⟨U2, rfl, hU2, hb2⟩
      have hq' : (U1.toList == U2.toList) = isSys s.data.toList k := eqS_of hU1 hU2
      have hb3 := Lib.hid ((hb.out.trans (hb1.mono hb.out.size)).trans (hb2.mono (Nat.le_trans hb.out.size hb1.size)))
      clear hb1 hb2 hU1 hU2
      cases h : isSys s.data.toList k
      · rw [h] at hq'
        have hno' : Hid (∀ j, j < k + 1 → isSys s.data.toList j = false) := Lib.hid (fun j hj => by
          rcases Nat.lt_or_ge j k with h1 | h1
          · exact hno.out j h1
          · obtain rfl : j = k := by omega
            exact h)
        replace h := Lib.hid h
        go_wp2_with fail
        go_roundw
        case rel => exact ⟨k + 1, by go_num, by omega, hno', hb3⟩
        case measure => simp [intOf]; omega
      · rw [h] at hq'
        have hc := Lib.hid (canon_sys s.data.toList k (by omega) hno.out h)
        replace h := Lib.hid h
        go_wp2_with fail
        refine (refSystem_any k hk5 w3).mono ?_
        rintro e w' ⟨rfl, rfl⟩
        go_wp2_with fail
        go_ret2
        exact canon_yes hc.out hb3.out
    · obtain rfl : k = 5 := by omega
      have hck := Lib.hid (canon_key s.data.toList hno.out)
      rw [show ((5 : Nat) : Int) = (5 : Int) from rfl]
      go_wp2_with fail
      refine (refAtom_any s hs9.out wr).mono ?_
      rintro e w2 ⟨rfl, rfl⟩
      cases ha : allS atomB s.data.toList
      · have hn : Hid (canonL s.data.toList = none) := Lib.hid (by rw [hck.out, keyB, ha]; rfl)
        clear hck
        replace ha := Lib.hid ha
        go_wp2_with fail
        go_ret2
        exact canon_no hn.out hb.out
      · by_cases hlen : s.size ≤ 32
        · have hy : Hid (canonL s.data.toList = some (lowL s.data.toList)) := Lib.hid (by rw [hck.out, keyB, ha, ← size_len, decide_eq_true hlen]; rfl)
          clear hck
          replace ha := Lib.hid ha
          go_wp2_with fail
          go_loopw [5, 6] (fun v i wr2 => ∃ (k : Nat) (o : ByteArray), k ≤ s.size ∧ o.size ≤ k ∧ i = .int .i64 k ∧ v = .string o ∧ Hid (o.data.toList = lowL (s.data.toList.take k)) ∧ Hid (Below w.heap.size w wr2)) (fun _ i _ => s.size - (intOf i).toNat)
          case atStart => exact ⟨0, _, Nat.zero_le _, Nat.zero_le _, rfl, rfl, rfl, hb⟩
          case round =>
            obtain ⟨k, o, hk2, ho, rfl, rfl, hp, hb2⟩ := hrel
            have hba : Hid (∀ ob, Below w.heap.size w (wr.alloc ob)) := Lib.hid (fun ob => hb2.out.alloc hb2.out.size ob)
            by_cases hlt : k < s.size
            · go_wp2_with fail
              · refine ⟨⟨k + 1, _, by omega, size_app1 _ ho, by go_num, rfl, lowL_step s o k hlt _ hp (lowB_ref _ (by assumption) (by assumption)), Lib.hid (hba.out _)⟩, by simp [intOf]; omega⟩
              · refine ⟨⟨k + 1, _, by omega, size_app1 _ ho, by go_num, rfl, lowL_step s o k hlt _ hp (lowB_no _ (by omega)).symm, Lib.hid (hba.out _)⟩, by simp [intOf]; omega⟩
              · refine ⟨⟨k + 1, _, by omega, size_app1 _ ho, by go_num, rfl, lowL_step s o k hlt _ hp (lowB_no _ (by omega)).symm, Lib.hid (hba.out _)⟩, by simp [intOf]; omega⟩
            · obtain rfl : k = s.size := by omega
              rw [take_all] at hp
              go_wp2_with fail
              go_ret2
              exact canon_yes (by rw [hy.out, hp.out]) hb2.out
        · have hn : Hid (canonL s.data.toList = none) := Lib.hid (by rw [hck.out, keyB, ha, ← size_len, decide_eq_false hlen]; rfl)
          clear hck
          replace ha := Lib.hid ha
          go_wp2_with fail
          go_ret2
          exact canon_no hn.out hb.out
theorem place_at (x : List UInt8) (k : Nat) (hk : k < 5) (h1 : ∀ j, j < k → (sysL.getD j [] == x) = false) (h2 : (sysL.getD k [] == x) = true) : placeL x = k := by
  have e : ∀ (l : List (List UInt8)) (k : Nat), k < l.length → (∀ j, j < k → (l.getD j [] == x) = false) → (l.getD k [] == x) = true → l.idxOf x = k := by
    intro l
    induction l with
    | nil => intro k hk; simp at hk
    | cons y r ih =>
      intro k hk h1 h2
      match k, hk, h1, h2 with
      | 0, _, _, h2 => rw [List.idxOf_cons, show (y == x) = true from h2]; rfl
      | k + 1, hk, h1, h2 =>
        rw [List.idxOf_cons, show (y == x) = false from h1 0 (by omega)]
        have := ih k (by simpa using hk) (fun j hj => h1 (j + 1) (by omega)) h2
        simpa using this
  exact e sysL k hk h1 h2
theorem place_none (x : List UInt8) (h1 : ∀ j, j < 5 → (sysL.getD j [] == x) = false) : placeL x = 5 := by
  refine List.idxOf_eq_length fun hx => ?_
  obtain ⟨j, hj, e⟩ := List.getElem_of_mem hx
  have := h1 j hj
  rw [List.getD, List.getElem?_eq_getElem hj] at this
  simp only [Option.getD_some, e, beq_self_eq_true] at this
  cases this
set_option maxHeartbeats 1000000 in
theorem refPlace_any (s : ByteArray) (w : World) : Calls Tryz.prog 107 #[.string s] w fun e w' => e = .returned (.int .i64 (placeL s.data.toList)) ∧ w = w' := by
  go_enter Tryz.func107, Tryz.ntmps107
  go_wp2_with fail
  go_loop [3] (fun vk => ∃ k : Nat, vk = .int .i64 k ∧ k ≤ 5 ∧ Hid (∀ j, j < k → (sysL.getD j [] == s.data.toList) = false)) (fun vk => 5 - (intOf vk).toNat)
  case atStart => exact ⟨0, rfl, by omega, Lib.hid (fun j h => absurd h (Nat.not_lt_zero _))⟩
  case round =>
    obtain ⟨k, rfl, hk, hno⟩ := hrel
    by_cases hk5 : k < 5
    · go_wp2_with fail
      refine (refSystem_any k hk5 w).mono ?_
      rintro e w' ⟨rfl, rfl⟩
      have hq : ((mkB (sysL.getD k [])).toList == s.toList) = (sysL.getD k [] == s.data.toList) := by rw [eq_str, mkB_list]
      generalize mkB (sysL.getD k []) = F at hq ⊢
      cases h : (sysL.getD k [] == s.data.toList)
      · rw [h] at hq
        have hno' : Hid (∀ j, j < k + 1 → (sysL.getD j [] == s.data.toList) = false) := Lib.hid (fun j hj => by
          rcases Nat.lt_or_ge j k with h1 | h1
          · exact hno.out j h1
          · obtain rfl : j = k := by omega
            exact h)
        replace h := Lib.hid h
        go_wp2_with fail
        exact ⟨⟨k + 1, by go_num, by omega, hno'⟩, by simp [intOf]; omega⟩
      · rw [h] at hq
        have hp := Lib.hid (place_at _ k hk5 hno.out h)
        replace h := Lib.hid h
        go_wp2_with fail
        go_ret
        exact ⟨by rw [hp.out]; rfl, rfl⟩
    · obtain rfl : k = 5 := by omega
      have hp := Lib.hid (place_none _ hno.out)
      go_wp2_with fail
      go_ret
      exact ⟨by rw [hp.out]; rfl, rfl⟩
theorem bytesLess_eq : ∀ a b : List UInt8, Op.bytesLess a b = bytesBefore a b
  | [], [] => rfl
  | _ :: _, [] => rfl
  | [], _ :: _ => rfl
  | a :: x, b :: y => by rw [Op.bytesLess, bytesBefore, bytesLess_eq x y]
set_option maxHeartbeats 1000000 in
theorem refLess_any (a b : ByteArray) (w : World) : Calls Tryz.prog 85 #[.string a, .string b] w fun e w' => e = .returned (.bool (flt a.data.toList b.data.toList)) ∧ w = w' := by
  have h1 := placeL_le a.data.toList
  have h2 := placeL_le b.data.toList
  have hf := Lib.hid (flt_eq a.data.toList b.data.toList)
  have hl : Op.bytesLess a.toList b.toList = bytesBefore a.data.toList b.data.toList := by rw [bytesLess_eq, ByteArray.toList_eq, ByteArray.toList_eq]
  go_enter Tryz.func85, Tryz.ntmps85
  go_wp2_with fail
  refine (refPlace_any a w).mono ?_
  rintro e w' ⟨rfl, rfl⟩
  go_wp2_with fail
  refine (refPlace_any b w).mono ?_
  rintro e w' ⟨rfl, rfl⟩
  by_cases h : placeL a.data.toList = placeL b.data.toList
  · have hr : Hid (flt a.data.toList b.data.toList = bytesBefore a.data.toList b.data.toList) := Lib.hid (by rw [hf.out, if_pos h])
    rw [h]
    clear h
    go_wp2_with fail
    go_ret
    exact ⟨by rw [hr.out]; first | rfl | (rw [hl]; rfl), rfl⟩
  · have hne : ((placeL a.data.toList : Int) != (placeL b.data.toList : Int)) = true := by rw [bne_iff_ne]; omega
    have hr : Hid (flt a.data.toList b.data.toList = decide ((placeL a.data.toList : Int) < placeL b.data.toList)) := Lib.hid (by
      rw [hf.out, if_neg h, decide_eq_decide]; omega)
    clear h
    go_wp2_with fail
    refine (refPlace_any a w).mono ?_
    rintro e w' ⟨rfl, rfl⟩
    go_wp2_with fail
    refine (refPlace_any b w).mono ?_
    rintro e w' ⟨rfl, rfl⟩
    go_wp2_with fail
    go_ret
    exact ⟨by rw [hr.out]; first | rfl | simp, rfl⟩
end Go.Proofs.YtcnebfmlelcliaaGreat
namespace Go.Proofs.YtcnebfmlelcliaaGreat
open Go.RowKit

def OwnT (w : World) (B : Nat) (v : Value) (l : List (List UInt8)) : Prop := w.ownsRow B 9 1 v l.length (l.map encStr)
theorem OwnT.nil (w : World) (B : Nat) : OwnT w B (.slice none 0 0) [] := World.ownsRow_nil _ _ _ _
theorem OwnT.rd {w : World} {B : Nat} {v : Value} {l : List (List UInt8)} (h : OwnT w B v l) : Rd w v l.length (l.map encStr) := Rd.of_own h
theorem OwnT.below {w w' : World} {B : Nat} {v : Value} {l : List (List UInt8)} (h : OwnT w B v l) (hb : Below w.heap.size w w') : OwnT w' B v l :=
  World.ownsRow.kept (row := none) h ⟨hb.os, hb.tape, hb.output, hb.size, fun k hk _ => hb.block k hk⟩ (by cases hv : v.ownBlock <;> simp)
theorem OwnT.lt {w : World} {B : Nat} {v : Value} {l : List (List UInt8)} (h : OwnT w B v l) : ∀ k, v.ownBlock = some k → B ≤ k ∧ k < w.heap.size := World.ownsRow.lt h
theorem str_info : (Tryz.prog.info? 9).map (fun i => (i.zero, i.size, i.bytes)) = some (some (.string ⟨#[]⟩), 1, 16) := by kernel_rfl
/-- 'append(v, u)' of a text -/
theorem wpList_append_text {w : World} {ops : Array Oper} {rest : List Oper} {o : Oper} {a : Act} {Q : Exit → Act → World → Prop} (hgd : o.guard = none) (s x : Operand)
    (ho : o.op = .call { callee := .builtin .append, args := #[s, x], argTypes := #[48, 48] }) (B : Nat) (v : Value) (l : List (List UInt8)) (g : Nat) (u : ByteArray)
    (hs : a.eval s = v) (hx : a.eval x = .slice (some ⟨g, 0, none⟩) 1 1) (hown : OwnT w B v l) (hc : w.cell? ⟨g, 0, none⟩ = some (.string u)) (hg : g < w.heap.size) (hlen : (l.length + 1) * 16 ≤ 140737488355328) (hbase : B ≤ w.heap.size)
    (h : ∀ v' w', OwnT w' B v' (l ++ [u.data.toList]) → w.grownBy w' v.ownBlock → (∀ g, v'.ownBlock = some g → v.ownBlock = some g ∨ w.heap.size ≤ g) → wpList Tryz.prog ops Q rest (a.put o.dst v') w') : wpList Tryz.prog ops Q (o :: rest) a w := by
  refine wpList_append_rd hgd s x 48 ho B 9 _ 1 16 Tryz.underlying48 str_info rfl (by decide) v _ l.length 1 (l.map encStr) [.string u] hs hx hown ⟨_, 1, rfl, .inr ⟨g, 0, rfl, hg, Nat.le_refl _, fun i y hy => ?_⟩⟩ rfl (fun y hy => ?_) (by unfold maxLen; omega) hlen hbase ?_
  · match i, hy with
    | 0, hy => simp at hy; subst hy; simpa using hc
  · have : y = .string u := by simpa using hy
    subst this; rfl
  · intro v' w' ho' hg' hv'
    refine h v' w' ?_ hg' hv'
    unfold OwnT
    rw [List.length_append, List.map_append]
    exact ho'
/-- between the rounds of With: what is written, is f there already? -/
def WithInv (f : List UInt8) (l : List (List UInt8)) (k : Nat) (done : Bool) (out : List (List UInt8)) : Prop :=
  if done then insS flt f l = out ++ l.drop k else out = l.take k ∧ insS flt f l = out ++ insS flt f (l.drop k)
theorem WithInv.start (f : List UInt8) (l : List (List UInt8)) : WithInv f l 0 false [] := ⟨rfl, rfl⟩
theorem WithInv.len {f : List UInt8} {l : List (List UInt8)} {k : Nat} {d : Bool} {out : List (List UInt8)} (h : WithInv f l k d out) : out.length ≤ l.length + 1 := by
  have hl := insS_len flt f l
  cases d
  · rw [h.1, List.length_take]; omega
  · have h' : insS flt f l = out ++ l.drop k := h
    rw [h', List.length_append] at hl; omega
theorem drop_get {l : List (List UInt8)} {k : Nat} (h : k < l.length) : l.drop k = l[k] :: l.drop (k + 1) := List.drop_eq_getElem_cons h
theorem WithInv.on {f : List UInt8} {l : List (List UInt8)} {k : Nat} {out : List (List UInt8)} (h : WithInv f l k true out) (hk : k < l.length) : WithInv f l (k + 1) true (out ++ [l[k]]) := by
  have h' : insS flt f l = out ++ l.drop k := h
  show insS flt f l = _
  rw [h', drop_get hk]; simp
theorem WithInv.skip {f : List UInt8} {l : List (List UInt8)} {k : Nat} {out : List (List UInt8)} (h : WithInv f l k false out) (hk : k < l.length) (hn : flt f l[k] = false) : WithInv f l (k + 1) false (out ++ [l[k]]) := by
  have h2 := h.2
  rw [drop_get hk, insS, if_neg (by rw [hn]; simp)] at h2
  exact ⟨by rw [h.1, List.take_succ_eq_append_getElem hk], by rw [h2]; simp⟩
theorem WithInv.put {f : List UInt8} {l : List (List UInt8)} {k : Nat} {out : List (List UInt8)} (h : WithInv f l k false out) (hk : k < l.length) (hn : flt f l[k] = true) : WithInv f l (k + 1) true (out ++ [f] ++ [l[k]]) := by
  have h2 := h.2
  rw [drop_get hk, insS, if_pos hn] at h2
  show insS flt f l = _
  rw [h2]; simp
theorem WithInv.end_ {f : List UInt8} {l : List (List UInt8)} {d : Bool} {out : List (List UInt8)} (h : WithInv f l l.length d out) : insS flt f l = if d then out else out ++ [f] := by
  cases d
  · have := h.2
    rw [List.drop_length] at this
    exact this
  · have h' : insS flt f l = out ++ l.drop l.length := h
    rw [List.drop_length, List.append_nil] at h'
    exact h'
def RetRd (l : List (List UInt8)) (w : World) (e : Ending) (w' : World) : Prop := ∃ v', e = .returned v' ∧ Hid (Rd w' v' l.length (l.map encStr)) ∧ Hid (Below w.heap.size w w')
theorem rd_cell {w : World} {b o k : Nat} {l : List (List UInt8)} (hc : ∀ i u, (l.map encStr)[i]? = some u → w.cell? ⟨b, o + i, none⟩ = some u) (hk : k < l.length) : w.cell? ⟨b, o + k, none⟩ = some (.string (mkB l[k])) := hc k _ (by rw [List.getElem?_map, List.getElem?_eq_getElem hk]; rfl)
end Go.Proofs.YtcnebfmlelcliaaGreat
namespace Go.Proofs.YtcnebfmlelcliaaGreat
open Go.RowKit

def canonAll : List (List UInt8) → Option (List (List UInt8))
  | [] => some []
  | x :: r => match canonL x with
    | none => none
    | some c => (canonAll r).map (c :: ·)
theorem canonAll_append : ∀ a b : List (List UInt8), canonAll (a ++ b) = (canonAll a).bind fun x => (canonAll b).map (x ++ ·)
  | [], b => by simp [canonAll]
  | x :: r, b => by
    rw [List.cons_append, canonAll, canonAll, canonAll_append r b]
    cases canonL x with
    | none => rfl
    | some c =>
      cases canonAll r with
      | none => rfl
      | some y => cases canonAll b <;> simp
theorem canonAll_snoc (l : List (List UInt8)) (k : Nat) (h : k < l.length) (cs : List (List UInt8)) (hc : canonAll (l.take k) = some cs) : canonAll (l.take (k + 1)) = (canonL l[k]).map fun c => cs ++ [c] := by
  rw [List.take_succ_eq_append_getElem h, canonAll_append, hc]
  simp only [Option.bind_some, canonAll]
  cases canonL l[k] <;> simp
theorem canonAll_none (l : List (List UInt8)) (k : Nat) (h : canonAll (l.take k) = none) : canonAll l = none := by
  rw [← List.take_append_drop k l, canonAll_append, h]; rfl
theorem canonAll_len : ∀ (l cs : List (List UInt8)), canonAll l = some cs → cs.length = l.length
  | [], cs, h => by simp [canonAll] at h; subst h; rfl
  | x :: r, cs, h => by
    rw [canonAll] at h
    cases hx : canonL x with
    | none => rw [hx] at h; cases h
    | some c =>
      rw [hx] at h
      cases hr : canonAll r with
      | none => rw [hr] at h; cases h
      | some y =>
        rw [hr] at h
        have := Option.some.inj h
        rw [← this, List.length_cons, List.length_cons, canonAll_len r y hr]
/-- the error's number of Make -/
def makeCode (l : List (List UInt8)) : Nat := match canonAll l with
  | none => 4
  | some cs => if 16 < (fset cs).length then 7 else 0
/-- the set that Make makes -/
def makeSet (l : List (List UInt8)) : List (List UInt8) := match canonAll l with
  | none => []
  | some cs => if 16 < (fset cs).length then [] else fset cs
def MakeRet (l : List (List UInt8)) (w : World) (e : Ending) (w' : World) : Prop := ∃ v', e = .returned (.tuple #[v', .int .i64 (makeCode l : Int)]) ∧ Hid (Rd w' v' (makeSet l).length ((makeSet l).map encStr)) ∧ Hid (Below w.heap.size w w')
theorem make_none {l : List (List UInt8)} {w w' : World} (h : canonAll l = none) (hb : Below w.heap.size w w') : MakeRet l w (.returned (.tuple #[.slice none 0 0, .int .i64 4])) w' :=
  ⟨_, by rw [makeCode, h]; rfl, Lib.hid (by rw [makeSet, h]; exact ⟨none, 0, rfl, .inl rfl⟩), Lib.hid hb⟩
theorem make_full {l cs : List (List UInt8)} {w w' : World} (h : canonAll l = some cs) (h2 : 16 < (fset cs).length) (hb : Below w.heap.size w w') : MakeRet l w (.returned (.tuple #[.slice none 0 0, .int .i64 7])) w' :=
  ⟨_, by simp only [makeCode, h]; rw [if_pos h2]; rfl, Lib.hid (by simp only [makeSet, h]; rw [if_pos h2]; exact ⟨none, 0, rfl, .inl rfl⟩), Lib.hid hb⟩
theorem make_ok {l cs : List (List UInt8)} {w w' : World} {v : Value} (h : canonAll l = some cs) (h2 : ¬ 16 < (fset cs).length) (hr : Rd w' v (fset cs).length ((fset cs).map encStr)) (hb : Below w.heap.size w w') : MakeRet l w (.returned (.tuple #[v, .int .i64 0])) w' :=
  ⟨v, by simp only [makeCode, h]; rw [if_neg h2]; rfl, Lib.hid (by simp only [makeSet, h]; rw [if_neg h2]; exact hr), Lib.hid hb⟩
/-- texts of a size that may be -/
def Sized (l : List (List UInt8)) : Prop := ∀ x ∈ l, (mkB x).size ≤ maxLen
theorem fset_snoc (cs : List (List UInt8)) (c : List UInt8) : withS flt (fset cs) c = fset (cs ++ [c]) := by
  unfold fset setS
  rw [List.foldl_append]; rfl
end Go.Proofs.YtcnebfmlelcliaaGreat
namespace Go.Proofs.YtcnebfmlelcliaaGreat
open Go.RowKit

theorem owns_emptyT (w : World) (B : Nat) (hB : B ≤ w.heap.size) : OwnT (w.alloc (.cells #[] 9)) B (.slice (some ⟨w.heap.size, 0, none⟩) 0 0) [] :=
  ⟨rfl, .inr ⟨w.heap.size, 0, #[], rfl, hB, heap_alloc_new w _, Nat.le_refl _, by unfold maxLen; omega, rfl, rfl⟩⟩
def aliveIn : List (List UInt8) := [[98], [92, 68, 82, 65, 70, 84], [97], [66]]
theorem alive_canon : canonL [92, 115, 101, 101, 110] = some [92, 83, 101, 101, 110] := by kernel_rfl
theorem alive_make : makeCode aliveIn = 0 ∧ makeSet aliveIn = [[92, 68, 114, 97, 102, 116], [97], [98]] := ⟨by kernel_rfl, by kernel_rfl⟩
theorem small_size (l : List UInt8) (h : l.length ≤ 100) : (mkB l).size ≤ maxLen := by
  show l.length ≤ _
  unfold maxLen; omega
end Go.Proofs.YtcnebfmlelcliaaGreat
