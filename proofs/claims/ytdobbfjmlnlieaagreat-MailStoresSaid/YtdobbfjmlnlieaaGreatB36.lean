/- MailStores: walked. (written by tools/gen_MoI.py) -/
import Derived.Test.YtdobbfjmlnlieaaGreatB34
import Derived.Test.YtdobbfjmlnlieaaGreatB35
namespace Go.Proofs.YtdobbfjmlnlieaaGreat
set_option linter.unusedSimpArgs false
open Go.RowKit
attribute [local go_sem ↓] Go.wp_at_zero Go.wp_at_succ

/-- the request as a store -/
def opS (q : Rq) : Rq := { q with op := 7 }
theorem below_cell0 {w w' : World} (h : Below w.heap.size w w') {p : Addr} {v : Value} (hc : w.cell? p = some v) : w'.cell? p = some v := (h.cell (p := p) (World.block_lt_of_cell? _ _ hc)).trans hc
theorem MlIn.bxs {W : World} {a : Option Addr} {n c : Nat} {v1 v2 v3 v4 v5 : Value} {m : Ml} (h : MlIn W (.agg [.slice a n c, v1, v2, v3, v4, v5].toArray) m) : ∃ bs : List BxV, bs.map BxV.b = m.boxes ∧ n = bs.length ∧ BxsIn W (.slice a bs.length c) bs := by
  obtain ⟨vb, vh, vs, bs, hv, hb, hi, -, -⟩ := h
  unfold mlVal at hv
  injection hv with hv
  have h0 : Value.slice a n c = vb := by
    have := congrArg (fun x : Array Value => x[0]?) hv
    simpa using this
  subst h0
  obtain ⟨ao, cap, he, hr⟩ := hi.1
  injection he with e1 e2 e3
  subst e2
  exact ⟨bs, hb, rfl, hi⟩
theorem RightP.bxsz {m : Ml} (h : RightP m) {bs : List BxV} (hb : bs.map BxV.b = m.boxes) : bs.length ≤ 1000000 ∧ ∀ y ∈ bs, y.rows.length ≤ 1000000 ∧ ∀ x ∈ y.rows, x.x.flags.length * 16 ≤ 140737488355328 := by
  have hl : bs.length = m.boxes.length := by rw [← hb, List.length_map]
  refine ⟨by have := h.lb; omega, fun y hy => ?_⟩
  have hm : y.b ∈ m.boxes := by rw [← hb]; exact List.mem_map_of_mem hy
  have h1 := (h.boxes _ hm).len
  have h2 : y.b.letters.length = y.rows.length := List.length_map ..
  refine ⟨by omega, fun x hx => ?_⟩
  have := right_16 ((h.boxes _ hm).lets x.x (List.mem_map_of_mem (f := LtV.x) hx)).fl
  omega
set_option maxRecDepth 100000 in
set_option maxHeartbeats 16000000 in
theorem mailStores_any (v rv : Value) (W : World) (hv : ∃ m : Ml, MlIn W v m) (hrv : ∃ k : RqP, rv = .agg (rqT.enc k).toArray ∧ RqIn W k.1 k.2) :
    Calls Tryz.prog 7 #[v, rv] W fun e w' => e = .returned (.bool true) ∧ Below W.heap.size W w' := by
  obtain ⟨m, hin⟩ := hv
  obtain ⟨⟨q, y⟩, rfl, hq⟩ := hrv
  obtain ⟨ab_, cb_, nb_, ah_, ch_, as_, cs_, rfl⟩ := hin.out_
  have hq0 : Hid (∀ w', Below W.heap.size W w' → RqIn w' q y) := Lib.hid (fun w' h => hq.below h)
  have hin0 : Hid (∀ w', Below W.heap.size W w' → MlIn w' (.agg #[.slice ab_ nb_ cb_, .int .u64 m.nv, .slice ah_ m.homes.length ch_, .slice as_ m.seats.length cs_, .int .u64 m.ns, .int .u64 m.sweeps]) m) := Lib.hid (fun w' h => hin.below h)
  have hz1 := ((Zoo.nil W).newBox [.slice ab_ nb_ cb_, .int .u64 m.nv, .slice ah_ m.homes.length ch_, .slice as_ m.seats.length cs_, .int .u64 m.ns, .int .u64 m.sweeps].toArray 27).newBox (rqCells q y).toArray 41
  have hlt1 : W.heap.size < (W.alloc (.cells [.slice ab_ nb_ cb_, .int .u64 m.nv, .slice ah_ m.homes.length ch_, .slice as_ m.seats.length cs_, .int .u64 m.ns, .int .u64 m.sweeps].toArray 27)).heap.size := by simp
  have hlt2 : (W.alloc (.cells [.slice ab_ nb_ cb_, .int .u64 m.nv, .slice ah_ m.homes.length ch_, .slice as_ m.seats.length cs_, .int .u64 m.ns, .int .u64 m.sweeps].toArray 27)).heap.size < ((W.alloc (.cells [.slice ab_ nb_ cb_, .int .u64 m.nv, .slice ah_ m.homes.length ch_, .slice as_ m.seats.length cs_, .int .u64 m.ns, .int .u64 m.sweeps].toArray 27)).alloc (.cells (rqCells q y).toArray 41)).heap.size := by simp
  have hst0 := hin.stay
  have hb0 : Below W.heap.size W ((W.alloc (.cells [.slice ab_ nb_ cb_, .int .u64 m.nv, .slice ah_ m.homes.length ch_, .slice as_ m.seats.length cs_, .int .u64 m.ns, .int .u64 m.sweeps].toArray 27)).alloc (.cells (rqCells q y).toArray 41)) := ((Below.refl _ W).alloc (Nat.le_refl _) _).alloc (by simp) _
  generalize hMB : W.heap.size = MB at hz1 hst0 hlt1
  generalize hRB : (W.alloc (.cells [.slice ab_ nb_ cb_, .int .u64 m.nv, .slice ah_ m.homes.length ch_, .slice as_ m.seats.length cs_, .int .u64 m.ns, .int .u64 m.sweeps].toArray 27)).heap.size = RB at hz1 hst0 hlt1 hlt2
  generalize hWa : ((W.alloc (.cells [.slice ab_ nb_ cb_, .int .u64 m.nv, .slice ah_ m.homes.length ch_, .slice as_ m.seats.length cs_, .int .u64 m.ns, .int .u64 m.sweeps].toArray 27)).alloc (.cells (rqCells q y).toArray 41)) = Wa at hz1 hb0 hlt2
  have hst1 : Hid (Stay (okL [MB, RB]) Wa fun x => MlIn x (.agg #[.slice ab_ nb_ cb_, .int .u64 m.nv, .slice ah_ m.homes.length ch_, .slice as_ m.seats.length cs_, .int .u64 m.ns, .int .u64 m.sweeps]) m) := Lib.hid ((hst0.weak (fun k hk _ b hb => by
    rcases List.mem_cons.1 hb with rfl | hb
    · omega
    · rw [List.mem_singleton.1 hb]; omega)).below hb0)
  replace hz1 := Lib.hid hz1
  replace hlt1 := Lib.hid hlt1
  replace hlt2 := Lib.hid hlt2
  clear hin hq hst0 hb0
  show Calls Tryz.prog 7 #[.agg #[.slice ab_ nb_ cb_, .int .u64 m.nv, .slice ah_ m.homes.length ch_, .slice as_ m.seats.length cs_, .int .u64 m.ns, .int .u64 m.sweeps], .agg (rqCells q y).toArray] W _
  go_enter Tryz.func7, Tryz.ntmps7
  go_upto_region 1 with fail
  clear hWa hRB
  replace hMB := Lib.hid hMB
  go_wp2_with fail
  refine (alive_any _).mono ?_
  rintro e w1 ⟨rfl, hb1⟩
  dsimp only
  have hz2 := Lib.hid (hz1.out.below hb1.out)
  have hst2 := Lib.hid (hst1.out.below hb1.out)
  have hlt3 := Lib.hid (Nat.lt_of_lt_of_le hlt2.out hb1.out.size)
  obtain ⟨hbM, -⟩ := hz2.out.box (B := MB) (C := [.slice ab_ nb_ cb_, .int .u64 m.nv, .slice ah_ m.homes.length ch_, .slice as_ m.seats.length cs_, .int .u64 m.ns, .int .u64 m.sweeps].toArray) (t := 27) 1 rfl
  have x0 : w1.cell? ⟨MB, 0, none⟩ = some (.slice ab_ nb_ cb_) := box_cell hbM 0
  have x1 : w1.cell? ⟨MB, 1, none⟩ = some (.int .u64 m.nv) := box_cell hbM 1
  have x2 : w1.cell? ⟨MB, 2, none⟩ = some (.slice ah_ m.homes.length ch_) := box_cell hbM 2
  have x3 : w1.cell? ⟨MB, 3, none⟩ = some (.slice as_ m.seats.length cs_) := box_cell hbM 3
  have x4 : w1.cell? ⟨MB, 4, none⟩ = some (.int .u64 m.ns) := box_cell hbM 4
  have x5 : w1.cell? ⟨MB, 5, none⟩ = some (.int .u64 m.sweeps) := box_cell hbM 5
  obtain ⟨hbR, -⟩ := hz2.out.box (B := RB) (C := (rqCells q y).toArray) (t := 41) 0 rfl
  have hld := Lib.hid (fun j v (hj : (rqCells q y)[j]? = some v) => (show w1.cell? ⟨RB, 0 + j, none⟩ = some v by rw [Nat.zero_add, box_cell hbR j, List.getElem?_toArray]; exact hj))
  clear hbM hbR hz1 hst1 hlt2 hb1
  go_wp2_with (first | refine wpList_load_cells_w (by rfl) 41 (.tmp 3) rfl RB 0 (rqCells q y) (by rfl) Tryz.isAgg41 Tryz.sizeOf41 hld.out ?_ | refine wpList_rq1 (q := q) (y := y) (by rfl) (.tmp 22) rfl (by rfl) ?_)
  have hba := (Below.refl w1.heap.size w1).alloc (Nat.le_refl _) (.cells (rqCells q y).toArray 41)
  have hnw := heap_alloc_new w1 (.cells (rqCells q y).toArray 41)
  have hnl : w1.heap.size < (w1.alloc (.cells (rqCells q y).toArray 41)).heap.size := by simp
  have hz4 := Lib.hid (hz2.out.below hba)
  have hst4 := Lib.hid (hst2.out.below hba)
  generalize (w1.alloc (.cells (rqCells q y).toArray 41)) = w3 at hba hnw hnl hz4 hst4 ⊢
  have hlt5 := Lib.hid (Nat.lt_of_lt_of_le hlt3.out hba.size)
  generalize w1.heap.size = LB at hnw hnl ⊢
  have hrqs : RqsIn w3 (.slice (some ⟨LB, 0, none⟩) 1 1) [(q, y)] := ⟨⟨_, 1, rfl, .inr ⟨LB, 0, rfl, hnl, Nat.le_refl _, fun i v hv => by
    rw [Nat.zero_add, box_cell hnw i, List.getElem?_toArray, ← hv]
    show _ = (rqCells q y ++ [])[i]?
    rw [List.append_nil]⟩⟩, fun p hp => by rw [List.mem_singleton.1 hp]; exact hq0.out w3 hz4.out.bel⟩
  refine (light_any _ _ (hin0.out w3 hz4.out.bel) hrqs).mono ?_
  rintro e w4 ⟨rfl, hb4⟩
  dsimp only
  have hz5 := Lib.hid (hz4.out.below hb4.out)
  have hst5 := Lib.hid (hst4.out.below hb4.out)
  have hlt6 := Lib.hid (Nat.lt_of_lt_of_le hlt5.out hb4.out.size)
  clear x0 x1 x2 x3 x4 x5 hld hba hnw hnl hrqs hz4 hz2 hst4 hst2 hlt3 hlt5 hb4
  generalize hB2 : lightB _ _ = B2
  replace hB2 := Lib.hid hB2
  cases B2 with
  | false =>
    go_wp2_with fail
    refine (alive_any _).mono ?_
    rintro e wz ⟨rfl, hbz⟩
    dsimp only
    have hbF := Lib.hid (hz5.out.below hbz.out).bel
    clear hz5
    go_wp2_with fail
    go_ret
    first | exact ⟨rfl, hbF.out⟩ | (rw [← hMB.out]; exact ⟨rfl, hbF.out⟩)
  | true =>
    have hqo := Lib.hid (light_rq hB2.out q (List.mem_cons_self ..))
    have hask := Lib.hid (light_ask hB2.out)
    clear hB2 hin0
    go_upto_region 3 with fail
    obtain ⟨hbM, -⟩ := hz5.out.box (B := MB) (C := [.slice ab_ nb_ cb_, .int .u64 m.nv, .slice ah_ m.homes.length ch_, .slice as_ m.seats.length cs_, .int .u64 m.ns, .int .u64 m.sweeps].toArray) (t := 27) 1 rfl
    have x0 : w4.cell? ⟨MB, 0, none⟩ = some (.slice ab_ nb_ cb_) := box_cell hbM 0
    have x1 : w4.cell? ⟨MB, 1, none⟩ = some (.int .u64 m.nv) := box_cell hbM 1
    have x2 : w4.cell? ⟨MB, 2, none⟩ = some (.slice ah_ m.homes.length ch_) := box_cell hbM 2
    have x3 : w4.cell? ⟨MB, 3, none⟩ = some (.slice as_ m.seats.length cs_) := box_cell hbM 3
    have x4 : w4.cell? ⟨MB, 4, none⟩ = some (.int .u64 m.ns) := box_cell hbM 4
    have x5 : w4.cell? ⟨MB, 5, none⟩ = some (.int .u64 m.sweeps) := box_cell hbM 5
    clear hbM
    have hL0 : ∀ b ∈ [MB, RB], b < w4.heap.size := fun b hb => by
      have h1 := hlt1.out; have h2 := hlt6.out
      rcases List.mem_cons.1 hb with rfl | hb
      · omega
      · rw [List.mem_singleton.1 hb]; omega
    replace hL0 := Lib.hid hL0
    go_wp2_with fail
    refine (begun_any _ hst5.out.now hask.out).mono ?_
    intro e w5 hbr
    obtain ⟨C0, m0, rfl, hr0, hs0, hb5⟩ := hbr.rightL hst5.out hL0.out
    obtain ⟨ab0, cb0, nb0, ah0, ch0, as0, cs0, rfl⟩ := hs0.now.shape
    dsimp only
    have hz6 := Lib.hid (hz5.out.below hb5)
    replace hL0 := Lib.hid (ltL_below hL0.out hb5.size)
    replace hr0 := Lib.hid hr0
    obtain ⟨hbM, -⟩ := hz6.out.box (B := MB) (C := [.slice ab_ nb_ cb_, .int .u64 m.nv, .slice ah_ m.homes.length ch_, .slice as_ m.seats.length cs_, .int .u64 m.ns, .int .u64 m.sweeps].toArray) (t := 27) 1 rfl
    clear x0 x1 x2 x3 x4 x5 hbr hz5 hst5 hask
    have x0 : w5.cell? ⟨MB, 0, none⟩ = some (.slice ab_ nb_ cb_) := box_cell hbM 0
    have fx0 : w5.frozen? ⟨MB, 0, none⟩ = false := box_free hbM 0
    have x1 : w5.cell? ⟨MB, 1, none⟩ = some (.int .u64 m.nv) := box_cell hbM 1
    have fx1 : w5.frozen? ⟨MB, 1, none⟩ = false := box_free hbM 1
    have x2 : w5.cell? ⟨MB, 2, none⟩ = some (.slice ah_ m.homes.length ch_) := box_cell hbM 2
    have fx2 : w5.frozen? ⟨MB, 2, none⟩ = false := box_free hbM 2
    have x3 : w5.cell? ⟨MB, 3, none⟩ = some (.slice as_ m.seats.length cs_) := box_cell hbM 3
    have fx3 : w5.frozen? ⟨MB, 3, none⟩ = false := box_free hbM 3
    have x4 : w5.cell? ⟨MB, 4, none⟩ = some (.int .u64 m.ns) := box_cell hbM 4
    have fx4 : w5.frozen? ⟨MB, 4, none⟩ = false := box_free hbM 4
    have x5 : w5.cell? ⟨MB, 5, none⟩ = some (.int .u64 m.sweeps) := box_cell hbM 5
    have fx5 : w5.frozen? ⟨MB, 5, none⟩ = false := box_free hbM 5
    have hzF := hz6.out.fillBox (B := MB) (C := [.slice ab_ nb_ cb_, .int .u64 m.nv, .slice ah_ m.homes.length ch_, .slice as_ m.seats.length cs_, .int .u64 m.ns, .int .u64 m.sweeps]) (t := 27) 1 rfl [.slice ab0 nb0 cb0, .int .u64 m0.nv, .slice ah0 m0.homes.length ch0, .slice as0 m0.seats.length cs0, .int .u64 m0.ns, .int .u64 m0.sweeps] rfl
    have hsF := hs0.setL (B := MB) (.head _) [.slice ab0 nb0 cb0, .int .u64 m0.nv, .slice ah0 m0.homes.length ch0, .slice as0 m0.seats.length cs0, .int .u64 m0.ns, .int .u64 m0.sweeps]
    have hkF := KeptB.sets [.slice ab0 nb0 cb0, .int .u64 m0.nv, .slice ah0 m0.homes.length ch0, .slice as0 m0.seats.length cs0, .int .u64 m0.ns, .int .u64 m0.sweeps] 0 (KeptB.refl w5 MB)
    have hLF : Hid (∀ b ∈ [MB, RB], b < (w5.setCells MB 0 [.slice ab0 nb0 cb0, .int .u64 m0.nv, .slice ah0 m0.homes.length ch0, .slice as0 m0.seats.length cs0, .int .u64 m0.ns, .int .u64 m0.sweeps]).heap.size) := Lib.hid (fun b hb => Nat.lt_of_lt_of_eq (hL0.out b hb) hkF.size.symm)
    clear hbM hz6 hs0 hb5 hkF hL0
    go_upto_region 4 with fail
    change Code.wp _ _ _ _ (w5.setCells MB 0 [.slice ab0 nb0 cb0, .int .u64 m0.nv, .slice ah0 m0.homes.length ch0, .slice as0 m0.seats.length cs0, .int .u64 m0.ns, .int .u64 m0.sweeps])
    clear x0 x1 x2 x3 x4 x5 fx0 fx1 fx2 fx3 fx4 fx5
    generalize w5.setCells MB 0 [.slice ab0 nb0 cb0, .int .u64 m0.nv, .slice ah0 m0.homes.length ch0, .slice as0 m0.seats.length cs0, .int .u64 m0.ns, .int .u64 m0.sweeps] = w6 at hzF hsF hLF ⊢
    obtain ⟨hbR, -⟩ := hzF.box (B := RB) (C := (rqCells q y).toArray) (t := 41) 0 rfl
    have r0 : w6.cell? ⟨RB, 0, none⟩ = some (.int .i64 q.op) := box_cell hbR 0
    have fr0 : w6.frozen? ⟨RB, 0, none⟩ = false := box_free hbR 0
    clear hbR
    have hz7 := hzF.setBox (B := RB) (C := rqCells q y) (t := 41) 0 rfl 0 (.int .i64 7)
    have hs7 := hsF.setL (B := RB) (.tail _ (.head _)) [.int .i64 7]
    have hk7 := KeptB.set (KeptB.refl w6 RB) 0 (.int .i64 7)
    have hL7 : Hid (∀ b ∈ [MB, RB], b < (w6.setCell ⟨RB, 0, none⟩ (.int .i64 7)).heap.size) := Lib.hid (fun b hb => Nat.lt_of_lt_of_eq (hLF.out b hb) hk7.size.symm)
    simp only [World.setCells] at hs7
    replace hz7 : Zoo W (w6.setCell ⟨RB, 0, none⟩ (.int .i64 7)) [boxT RB (rqCells (opS q) y).toArray 41, boxT MB [.slice ab0 nb0 cb0, .int .u64 m0.nv, .slice ah0 m0.homes.length ch0, .slice as0 m0.seats.length cs0, .int .u64 m0.ns, .int .u64 m0.sweeps].toArray 27] := hz7
    clear hzF hsF hLF hk7
    go_upto_region 5 with fail
    generalize w6.setCell ⟨RB, 0, none⟩ (.int .i64 7) = w7 at hz7 hs7 hL7 ⊢
    clear r0 fr0
    replace hz7 := Lib.hid hz7
    replace hs7 := Lib.hid hs7
    have hqo7 : Hid (RqOk (opS q)) := Lib.hid ⟨⟨hqo.out.sz.fl, hqo.out.sz.sz, hqo.out.sz.ul⟩, hqo.out.box⟩
    obtain ⟨hbM, -⟩ := hz7.out.box (B := MB) (C := [.slice ab0 nb0 cb0, .int .u64 m0.nv, .slice ah0 m0.homes.length ch0, .slice as0 m0.seats.length cs0, .int .u64 m0.ns, .int .u64 m0.sweeps].toArray) (t := 27) 1 rfl
    obtain ⟨hbR, -⟩ := hz7.out.box (B := RB) (C := (rqCells (opS q) y).toArray) (t := 41) 0 rfl
    have x0 : w7.cell? ⟨MB, 0, none⟩ = some (.slice ab0 nb0 cb0) := box_cell hbM 0
    have x1 : w7.cell? ⟨MB, 1, none⟩ = some (.int .u64 m0.nv) := box_cell hbM 1
    have x2 : w7.cell? ⟨MB, 2, none⟩ = some (.slice ah0 m0.homes.length ch0) := box_cell hbM 2
    have x3 : w7.cell? ⟨MB, 3, none⟩ = some (.slice as0 m0.seats.length cs0) := box_cell hbM 3
    have x4 : w7.cell? ⟨MB, 4, none⟩ = some (.int .u64 m0.ns) := box_cell hbM 4
    have x5 : w7.cell? ⟨MB, 5, none⟩ = some (.int .u64 m0.sweeps) := box_cell hbM 5
    have hld := Lib.hid (fun j v (hj : (rqCells (opS q) y)[j]? = some v) => (show w7.cell? ⟨RB, 0 + j, none⟩ = some v by rw [Nat.zero_add, box_cell hbR j, List.getElem?_toArray]; exact hj))
    clear hbM hbR hqo
    obtain ⟨⟨m1, o1⟩, hap⟩ : ∃ r, applyM m0 (opS q) = r := ⟨_, rfl⟩
    have hca := apply_any _ hs7.out.now hr0.out.ap (show RqIn w7 (opS q) y from hq0.out w7 hz7.out.bel) hqo7.out
    rw [hap] at hca
    replace hca := Lib.hid hca
    have hsize : ∀ (wz : World), (wz.alloc (.cells [.slice none 0 0].toArray 27)).heap.size = wz.heap.size + 1 := fun wz => by simp
    replace hap := Lib.hid hap
    clear hsize
    go_wp2_with (refine wpList_load_cells rfl 41 (.tmp 3) rfl RB 0 (rqCells (opS q) y) (by rfl) Tryz.isAgg41 Tryz.sizeOf41 hld.out ?_)
    refine hca.out.mono ?_
    rintro e w8 ⟨vD, oD, rfl, hvD, hoD, hb8⟩
    dsimp only
    obtain ⟨ab1, cb1, nb1, ah1, ch1, as1, cs1, rfl⟩ := hvD.out.now.out_
    obtain ⟨aU1, cU1, aM1, cM1, rfl⟩ := hoD.out.now.out_
    clear hca hld x0 x1 x2 x3 x4 x5
    go_upto_region 6 with fail
    have e1 : (w8.alloc (.cells [.slice ab1 nb1 cb1, .int .u64 m1.nv, .slice ah1 m1.homes.length ch1, .slice as1 m1.seats.length cs1, .int .u64 m1.ns, .int .u64 m1.sweeps].toArray 27)).heap.size = w8.heap.size + 1 := by simp
    have hz9 := ((hz7.out.below hb8.out).newBox [.slice ab1 nb1 cb1, .int .u64 m1.nv, .slice ah1 m1.homes.length ch1, .slice as1 m1.seats.length cs1, .int .u64 m1.ns, .int .u64 m1.sweeps].toArray 27).newBox [.int .i64 o1.code, .int .u64 o1.session, .int .u64 o1.validity, .slice aU1 o1.uids.length cU1, .slice aM1 o1.mods.length cM1].toArray 35
    rw [e1] at hz9
    have hbn : Below w8.heap.size w8 ((w8.alloc (.cells [.slice ab1 nb1 cb1, .int .u64 m1.nv, .slice ah1 m1.homes.length ch1, .slice as1 m1.seats.length cs1, .int .u64 m1.ns, .int .u64 m1.sweeps].toArray 27)).alloc (.cells [.int .i64 o1.code, .int .u64 o1.session, .int .u64 o1.validity, .slice aU1 o1.uids.length cU1, .slice aM1 o1.mods.length cM1].toArray 35)) := ((Below.refl _ _).alloc (Nat.le_refl _) _).alloc (by simp) _
    change Code.wp _ _ _ _ ((w8.alloc (.cells [.slice ab1 nb1 cb1, .int .u64 m1.nv, .slice ah1 m1.homes.length ch1, .slice as1 m1.seats.length cs1, .int .u64 m1.ns, .int .u64 m1.sweeps].toArray 27)).alloc (.cells [.int .i64 o1.code, .int .u64 o1.session, .int .u64 o1.validity, .slice aU1 o1.uids.length cU1, .slice aM1 o1.mods.length cM1].toArray 35))
    have hinD := Lib.hid (hvD.out.below hbn)
    have hocD := Lib.hid (hoD.out.below hbn)
    have hs9 := Lib.hid ((hs7.out.below hb8.out).below hbn)
    have hle7 : w7.heap.size ≤ w8.heap.size := hb8.out.size
    have hL9 := Lib.hid (ltL_below (ltL_below hL7.out hb8.out.size) hbn.size)
    clear hvD hoD e1 hb8 hz7 hs7
    have hTB : w8.heap.size + 1 < ((w8.alloc (.cells [.slice ab1 nb1 cb1, .int .u64 m1.nv, .slice ah1 m1.homes.length ch1, .slice as1 m1.seats.length cs1, .int .u64 m1.ns, .int .u64 m1.sweeps].toArray 27)).alloc (.cells [.int .i64 o1.code, .int .u64 o1.session, .int .u64 o1.validity, .slice aU1 o1.uids.length cU1, .slice aM1 o1.mods.length cM1].toArray 35)).heap.size := by simp
    generalize ((w8.alloc (.cells [.slice ab1 nb1 cb1, .int .u64 m1.nv, .slice ah1 m1.homes.length ch1, .slice as1 m1.seats.length cs1, .int .u64 m1.ns, .int .u64 m1.sweeps].toArray 27)).alloc (.cells [.int .i64 o1.code, .int .u64 o1.session, .int .u64 o1.validity, .slice aU1 o1.uids.length cU1, .slice aM1 o1.mods.length cM1].toArray 35)) = w9 at hz9 hinD hocD hs9 hL9 hTB ⊢
    replace hz9 := Lib.hid hz9
    clear hbn
    generalize w8.heap.size = TB at hz9 hle7 hTB ⊢
    replace hTB := Lib.hid hTB
    replace hle7 := Lib.hid hle7
    obtain ⟨hbO, -⟩ := hz9.out.box (B := TB + 1) (C := [.int .i64 o1.code, .int .u64 o1.session, .int .u64 o1.validity, .slice aU1 o1.uids.length cU1, .slice aM1 o1.mods.length cM1].toArray) (t := 35) 0 rfl
    have o0 : w9.cell? ⟨TB + 1, 0, none⟩ = some (.int .i64 o1.code) := box_cell hbO 0
    have o3 : w9.cell? ⟨TB + 1, 3, none⟩ = some (.slice aU1 o1.uids.length cU1) := box_cell hbO 3
    have o4 : w9.cell? ⟨TB + 1, 4, none⟩ = some (.slice aM1 o1.mods.length cM1) := box_cell hbO 4
    obtain ⟨hbT, -⟩ := hz9.out.box (B := TB) (C := [.slice ab1 nb1 cb1, .int .u64 m1.nv, .slice ah1 m1.homes.length ch1, .slice as1 m1.seats.length cs1, .int .u64 m1.ns, .int .u64 m1.sweeps].toArray) (t := 27) 1 rfl
    obtain ⟨hbM, -⟩ := hz9.out.box (B := MB) (C := [.slice ab0 nb0 cb0, .int .u64 m0.nv, .slice ah0 m0.homes.length ch0, .slice as0 m0.seats.length cs0, .int .u64 m0.ns, .int .u64 m0.sweeps].toArray) (t := 27) 3 rfl
    by_cases hcode : o1.code = 0
    · obtain ⟨a, b, hst⟩ := store_good (m := m0) (q := opS q) hr0.out rfl (by rw [hap.out]; exact hcode)
      rw [hap.out] at hst
      have hgo : ((o1.code : Int) != 0) = false := by rw [hcode]; rfl
      have hr1 : Hid (RightP m1) := Lib.hid (by have := apply_right (opS q) hr0.out; rw [hap.out] at this; exact this)
      obtain ⟨hbR, -⟩ := hz9.out.box (B := RB) (C := (rqCells (opS q) y).toArray) (t := 41) 2 rfl
      have r6 : w9.cell? ⟨RB, 6, none⟩ = some (.string q.box) := box_cell hbR 6
      have x0 : w9.cell? ⟨MB, 0, none⟩ = some (.slice ab0 nb0 cb0) := box_cell hbM 0
      have x1 : w9.cell? ⟨MB, 1, none⟩ = some (.int .u64 m0.nv) := box_cell hbM 1
      have x2 : w9.cell? ⟨MB, 2, none⟩ = some (.slice ah0 m0.homes.length ch0) := box_cell hbM 2
      have x3 : w9.cell? ⟨MB, 3, none⟩ = some (.slice as0 m0.seats.length cs0) := box_cell hbM 3
      have x4 : w9.cell? ⟨MB, 4, none⟩ = some (.int .u64 m0.ns) := box_cell hbM 4
      have x5 : w9.cell? ⟨MB, 5, none⟩ = some (.int .u64 m0.sweeps) := box_cell hbM 5
      have hwas : (findM m0 q.box).isSome = true := by rw [show findM m0 q.box = some a from hst.was]; rfl
      have hnow : (findM m1 q.box).isSome = true := by rw [show findM m1 q.box = some b from hst.now]; rfl
      have hwas2 : (findM m0 q.box).getD bx0.b = a := by rw [show findM m0 q.box = some a from hst.was]; rfl
      have hnow2 : (findM m1 q.box).getD bx0.b = b := by rw [show findM m1 q.box = some b from hst.now]; rfl
      replace hst := Lib.hid hst
      replace hnow := Lib.hid hnow
      replace hnow2 := Lib.hid hnow2
      replace hwas := Lib.hid hwas
      replace hwas2 := Lib.hid hwas2
      clear hbO hbT hbM hbR hcode hap o3 o4
      go_wp2_with fail
      refine (findS_any _ m0 w9 hs9.out.now hr0.out.sized q.box).mono ?_
      rintro e w10 ⟨⟨nA, vA, xA, gA, rA, aA, cA⟩, rfl, hzA, hltA, hb10⟩
      unfold bxAgg bxCells BxV.v
      dsimp only
      rw [hwas.out]
      replace hzA := Lib.hid (hzA.out.trans hwas2.out)
      have hbp := Lib.hid (hr0.out.boxes a hst.out.mem)
      have hal : Hid (rA.map LtV.x = a.letters) := Lib.hid (congrArg Bx.letters hzA.out)
      have hlA : rA.length ≤ 32 := by have h1 := hbp.out.len; rw [← hal.out, List.length_map] at h1; exact h1
      clear x0 x1 x2 x3 x4 x5 r6 o0 hwas hwas2
      go_upto_region 9 with fail
      have hz11 := (hz9.out.below hb10.out).newBox [.string nA, .int .u64 vA, .int .u64 xA, .int .u64 gA, .slice aA rA.length cA].toArray 48
      have hbn : Below w10.heap.size w10 (w10.alloc (.cells [.string nA, .int .u64 vA, .int .u64 xA, .int .u64 gA, .slice aA rA.length cA].toArray 48)) := (Below.refl _ _).alloc (Nat.le_refl _) _
      change Code.wp _ _ _ _ (w10.alloc (.cells [.string nA, .int .u64 vA, .int .u64 xA, .int .u64 gA, .slice aA rA.length cA].toArray 48))
      have hA11 : LtsIn (w10.alloc (.cells [.string nA, .int .u64 vA, .int .u64 xA, .int .u64 gA, .slice aA rA.length cA].toArray 48)) (.slice aA rA.length cA) rA := (hltA.out.now).below hbn
      have hD11 := Lib.hid ((hinD.out.below hb10.out).below hbn)
      have hO11 := Lib.hid ((hocD.out.below hb10.out).below hbn)
      have hFA : w10.heap.size < (w10.alloc (.cells [.string nA, .int .u64 vA, .int .u64 xA, .int .u64 gA, .slice aA rA.length cA].toArray 48)).heap.size := by simp
      clear hltA hinD hocD hs9 hz9 hL9 hb10 hbn hr0
      generalize (w10.alloc (.cells [.string nA, .int .u64 vA, .int .u64 xA, .int .u64 gA, .slice aA rA.length cA].toArray 48)) = w11 at hz11 hA11 hD11 hO11 hFA ⊢
      generalize w10.heap.size = FA at hz11 hFA ⊢
      replace hz11 := Lib.hid hz11
      replace hFA := Lib.hid hFA
      replace hA11 : Hid (∀ w', Below w11.heap.size w11 w' → LtsIn w' (.slice aA rA.length cA) rA) := Lib.hid (fun w' h => hA11.below h)
      obtain ⟨hbR, -⟩ := hz11.out.box (B := RB) (C := (rqCells (opS q) y).toArray) (t := 41) 3 rfl
      have r6 : w11.cell? ⟨RB, 6, none⟩ = some (.string q.box) := box_cell hbR 6
      obtain ⟨hbT, -⟩ := hz11.out.box (B := TB) (C := [.slice ab1 nb1 cb1, .int .u64 m1.nv, .slice ah1 m1.homes.length ch1, .slice as1 m1.seats.length cs1, .int .u64 m1.ns, .int .u64 m1.sweeps].toArray) (t := 27) 2 rfl
      have x0 : w11.cell? ⟨TB, 0, none⟩ = some (.slice ab1 nb1 cb1) := box_cell hbT 0
      have x1 : w11.cell? ⟨TB, 1, none⟩ = some (.int .u64 m1.nv) := box_cell hbT 1
      have x2 : w11.cell? ⟨TB, 2, none⟩ = some (.slice ah1 m1.homes.length ch1) := box_cell hbT 2
      have x3 : w11.cell? ⟨TB, 3, none⟩ = some (.slice as1 m1.seats.length cs1) := box_cell hbT 3
      have x4 : w11.cell? ⟨TB, 4, none⟩ = some (.int .u64 m1.ns) := box_cell hbT 4
      have x5 : w11.cell? ⟨TB, 5, none⟩ = some (.int .u64 m1.sweeps) := box_cell hbT 5
      clear hbR hbT
      go_wp2_with fail
      refine (findS_any _ m1 w11 hD11.out.now hr1.out.sized q.box).mono ?_
      rintro e w12 ⟨⟨nB, vB, xB, gB, rB, aB, cB⟩, rfl, hzB, hlB, hb12⟩
      unfold bxAgg bxCells BxV.v
      dsimp only
      rw [hnow.out]
      replace hzB := Lib.hid (hzB.out.trans hnow2.out)
      clear x0 x1 x2 x3 x4 x5 r6 hnow hnow2
      go_upto_region 10 with fail
      have hz13 := (hz11.out.below hb12.out).newBox [.string nB, .int .u64 vB, .int .u64 xB, .int .u64 gB, .slice aB rB.length cB].toArray 48
      have hbn : Below w12.heap.size w12 (w12.alloc (.cells [.string nB, .int .u64 vB, .int .u64 xB, .int .u64 gB, .slice aB rB.length cB].toArray 48)) := (Below.refl _ _).alloc (Nat.le_refl _) _
      change Code.wp _ _ _ _ (w12.alloc (.cells [.string nB, .int .u64 vB, .int .u64 xB, .int .u64 gB, .slice aB rB.length cB].toArray 48))
      have hB13 : LtsIn (w12.alloc (.cells [.string nB, .int .u64 vB, .int .u64 xB, .int .u64 gB, .slice aB rB.length cB].toArray 48)) (.slice aB rB.length cB) rB := (hlB.out.now).below hbn
      have hA13 := Lib.hid (fun w' (h : Below (w12.alloc (.cells [.string nB, .int .u64 vB, .int .u64 xB, .int .u64 gB, .slice aB rB.length cB].toArray 48)).heap.size (w12.alloc (.cells [.string nB, .int .u64 vB, .int .u64 xB, .int .u64 gB, .slice aB rB.length cB].toArray 48)) w') => (((hA11.out _ hb12.out).below hbn).below h))
      have hO13 := Lib.hid ((hO11.out.below hb12.out).below hbn)
      clear hlB hD11 hO11 hz11 hA11 hb12 hbn hr1
      generalize (w12.alloc (.cells [.string nB, .int .u64 vB, .int .u64 xB, .int .u64 gB, .slice aB rB.length cB].toArray 48)) = w13 at hz13 hB13 hA13 hO13 ⊢
      generalize w12.heap.size = FB at hz13 ⊢
      replace hz13 := Lib.hid hz13
      replace hB13 : Hid (∀ w', Below w13.heap.size w13 w' → LtsIn w' (.slice aB rB.length cB) rB) := Lib.hid (fun w' h => hB13.below h)
      have hlen : rB.length = rA.length := by
        have h1 := hst.out.len
        rw [← hzA.out, ← hzB.out] at h1
        simpa [BxV.b] using h1
      have hbl : Hid (rB.map LtV.x = b.letters) := Lib.hid (congrArg Bx.letters hzB.out)
      obtain ⟨hbB, -⟩ := hz13.out.box (B := FB) (C := [.string nB, .int .u64 vB, .int .u64 xB, .int .u64 gB, .slice aB rB.length cB].toArray) (t := 48) 0 rfl
      obtain ⟨hbA, -⟩ := hz13.out.box (B := FA) (C := [.string nA, .int .u64 vA, .int .u64 xA, .int .u64 gA, .slice aA rA.length cA].toArray) (t := 48) 1 rfl
      have ya4 : w13.cell? ⟨FA, 4, none⟩ = some (.slice aA rA.length cA) := box_cell hbA 4
      have yb4 : w13.cell? ⟨FB, 4, none⟩ = some (.slice aB rB.length cB) := box_cell hbB 4
      rw [hlen] at yb4
      have hne4 : ((rA.length : Int) != (rA.length : Int)) = false := by simp
      clear hbA hbB
      replace hlen := Lib.hid hlen
      clear hne4
      go_wp2_with fail
      clear ya4 yb4
      go_loopw [11] (fun v11 wr => ∃ j : Nat, v11 = .int .i64 j ∧ j ≤ rA.length ∧ Hid (Below w13.heap.size w13 wr)) (fun v11 _ => rA.length - (intOf v11).toNat)
      case atStart => exact ⟨0, rfl, Nat.zero_le _, Lib.hid (Below.refl _ _)⟩
      case round =>
        obtain ⟨j, rfl, hj, hbw⟩ := hrel
        obtain ⟨hbA, -⟩ := (hz13.out.below hbw.out).box (B := FA) (C := [.string nA, .int .u64 vA, .int .u64 xA, .int .u64 gA, .slice aA rA.length cA].toArray) (t := 48) 1 rfl
        have ya4 : wr.cell? ⟨FA, 4, none⟩ = some (.slice aA rA.length cA) := box_cell hbA 4
        by_cases hlt : j < rA.length
        · have hlt2 : j < rB.length := by rw [hlen.out]; exact hlt
          obtain ⟨xb, xo, xcap, hv, hcX⟩ := (hA13.out wr hbw.out).cells_at hlt
          injection hv with hv1 hv2 hv3
          subst hv1 hv3
          obtain ⟨yb, yo, ycap, hv, hcY⟩ := (hB13.out wr hbw.out).cells_at hlt2
          injection hv with hv1 hv2 hv3
          subst hv1 hv3
          have hfX := (hA13.out wr hbw.out).2 _ (List.getElem_mem hlt)
          have hfY := (hB13.out wr hbw.out).2 _ (List.getElem_mem hlt2)
          obtain ⟨x, hx⟩ : ∃ x, rA[j] = x := ⟨_, rfl⟩
          obtain ⟨z, hzz⟩ : ∃ z, rB[j] = z := ⟨_, rfl⟩
          rw [hx] at hcX hfX
          rw [hzz] at hcY hfY
          have hxa : Hid (∃ h : j < a.letters.length, a.letters[j] = x.x) := Lib.hid ⟨by rw [← hal.out, List.length_map]; exact hlt, by
            have h1 : (rA.map LtV.x)[j]? = some x.x := by rw [List.getElem?_map, List.getElem?_eq_getElem hlt, hx]; rfl
            rw [hal.out] at h1
            exact (List.getElem?_eq_some_iff.1 h1).2⟩
          have hzx : Hid (z.x = stNew a.letters (opS q) a.high x.x) := Lib.hid (by
            have h1 : (rB.map LtV.x)[j]? = some z.x := by rw [List.getElem?_map, List.getElem?_eq_getElem hlt2, hzz]; rfl
            rw [hbl.out] at h1
            obtain ⟨h2, h3⟩ := List.getElem?_eq_some_iff.1 h1
            obtain ⟨h4, h5⟩ := hxa.out
            have h6 := hst.out.lets j h4 h2
            rw [h3, h5] at h6
            exact h6)
          have hxm : Hid (x.x ∈ a.letters) := Lib.hid (by obtain ⟨h4, h5⟩ := hxa.out; rw [← h5]; exact List.getElem_mem h4)
          replace hx := Lib.hid hx
          replace hzz := Lib.hid hzz
          replace hcX : ∀ W', Below wr.heap.size wr W' → W'.cell? ⟨xb, xo + j * 5, none⟩ = some (.int .u64 x.x.uid) ∧ W'.cell? ⟨xb, xo + j * 5 + 1, none⟩ = some (.slice x.a x.x.flags.length x.c) ∧ W'.cell? ⟨xb, xo + j * 5 + 2, none⟩ = some (.int .u64 x.x.mod) ∧ W'.cell? ⟨xb, xo + j * 5 + 3, none⟩ = some (.string x.x.hash) ∧ W'.cell? ⟨xb, xo + j * 5 + 4, none⟩ = some (.int .u64 x.x.size) := hcX
          replace hcY : ∀ W', Below wr.heap.size wr W' → W'.cell? ⟨yb, yo + j * 5, none⟩ = some (.int .u64 z.x.uid) ∧ W'.cell? ⟨yb, yo + j * 5 + 1, none⟩ = some (.slice z.a z.x.flags.length z.c) ∧ W'.cell? ⟨yb, yo + j * 5 + 2, none⟩ = some (.int .u64 z.x.mod) ∧ W'.cell? ⟨yb, yo + j * 5 + 3, none⟩ = some (.string z.x.hash) ∧ W'.cell? ⟨yb, yo + j * 5 + 4, none⟩ = some (.int .u64 z.x.size) := hcY
          have hS : Hid (∀ W', Below wr.heap.size wr W' → (W'.cell? ⟨FA, 4, none⟩ = some (.slice (some ⟨xb, xo, none⟩) rA.length cA) ∧ W'.cell? ⟨FB, 4, none⟩ = some (.slice (some ⟨yb, yo, none⟩) rB.length cB)) ∧ (W'.cell? ⟨xb, xo + j * 5, none⟩ = some (.int .u64 x.x.uid) ∧ W'.cell? ⟨xb, xo + j * 5 + 1, none⟩ = some (.slice x.a x.x.flags.length x.c) ∧ W'.cell? ⟨xb, xo + j * 5 + 2, none⟩ = some (.int .u64 x.x.mod) ∧ W'.cell? ⟨xb, xo + j * 5 + 3, none⟩ = some (.string x.x.hash) ∧ W'.cell? ⟨xb, xo + j * 5 + 4, none⟩ = some (.int .u64 x.x.size)) ∧ (W'.cell? ⟨yb, yo + j * 5, none⟩ = some (.int .u64 z.x.uid) ∧ W'.cell? ⟨yb, yo + j * 5 + 1, none⟩ = some (.slice z.a z.x.flags.length z.c) ∧ W'.cell? ⟨yb, yo + j * 5 + 2, none⟩ = some (.int .u64 z.x.mod) ∧ W'.cell? ⟨yb, yo + j * 5 + 3, none⟩ = some (.string z.x.hash) ∧ W'.cell? ⟨yb, yo + j * 5 + 4, none⟩ = some (.int .u64 z.x.size))) := Lib.hid (fun W' h => by
            have hzw := (hz13.out.below hbw.out).below h
            obtain ⟨hbA, -⟩ := hzw.box (B := FA) (C := [.string nA, .int .u64 vA, .int .u64 xA, .int .u64 gA, .slice (some ⟨xb, xo, none⟩) rA.length cA].toArray) (t := 48) 1 rfl
            obtain ⟨hbB, -⟩ := hzw.box (B := FB) (C := [.string nB, .int .u64 vB, .int .u64 xB, .int .u64 gB, .slice (some ⟨yb, yo, none⟩) rB.length cB].toArray) (t := 48) 0 rfl
            exact ⟨⟨box_cell hbA 4, box_cell hbB 4⟩, hcX W' h, hcY W' h⟩)
          have hi0 : (0 : Int) ≤ (j : Int) := by omega
          have hi1 : (j : Int) < (rA.length : Int) := by omega
          have hi2 : (j : Int) < (rB.length : Int) := by omega
          clear hbA hcX hcY
          go_upto_region 15 with fail
          clear ya4
          go_cut [12, 13] (fun v12 v13 wx => ∃ (PX PY : Nat), v12 = .pointer (some ⟨PX, 0, none⟩) ∧ v13 = .pointer (some ⟨PY, 0, none⟩) ∧ Hid (Below wr.heap.size wr wx ∧ wx.heap[PX]? = some (.cells [.int .u64 x.x.uid, .slice x.a x.x.flags.length x.c, .int .u64 x.x.mod, .string x.x.hash, .int .u64 x.x.size].toArray 50 (0, 0)) ∧ wx.heap[PY]? = some (.cells [.int .u64 z.x.uid, .slice z.a z.x.flags.length z.c, .int .u64 z.x.mod, .string z.x.hash, .int .u64 z.x.size].toArray 50 (0, 0)) ∧ wr.heap.size ≤ PX ∧ wr.heap.size ≤ PY))
          case first =>
            have hbd : Below wr.heap.size wr wr.drew := (Below.refl _ _).drew
            refine wp_region_hd (fun w' => (w'.cell? ⟨FA, 4, none⟩ = some (.slice (some ⟨xb, xo, none⟩) rA.length cA) ∧ w'.cell? ⟨FB, 4, none⟩ = some (.slice (some ⟨yb, yo, none⟩) rB.length cB)) ∧ (w'.cell? ⟨xb, xo + j * 5, none⟩ = some (.int .u64 x.x.uid) ∧ w'.cell? ⟨xb, xo + j * 5 + 1, none⟩ = some (.slice x.a x.x.flags.length x.c) ∧ w'.cell? ⟨xb, xo + j * 5 + 2, none⟩ = some (.int .u64 x.x.mod) ∧ w'.cell? ⟨xb, xo + j * 5 + 3, none⟩ = some (.string x.x.hash) ∧ w'.cell? ⟨xb, xo + j * 5 + 4, none⟩ = some (.int .u64 x.x.size)) ∧ (w'.cell? ⟨yb, yo + j * 5, none⟩ = some (.int .u64 z.x.uid) ∧ w'.cell? ⟨yb, yo + j * 5 + 1, none⟩ = some (.slice z.a z.x.flags.length z.c) ∧ w'.cell? ⟨yb, yo + j * 5 + 2, none⟩ = some (.int .u64 z.x.mod) ∧ w'.cell? ⟨yb, yo + j * 5 + 3, none⟩ = some (.string z.x.hash) ∧ w'.cell? ⟨yb, yo + j * 5 + 4, none⟩ = some (.int .u64 z.x.size))) 13 1 (by kernel_rfl) rfl ⟨by kernel_rfl, by kernel_rfl, by kernel_rfl, by decide⟩ (hS.out _ hbd) (fun hok hS0 => ?_)
            generalize wr.drew = Wd at *
            refine Hd.take (i := 0) (v := ?tv541) hok rfl (by kernel_rfl) (fun _ _ _ h => h) (Or.inl ⟨by rfl, ?ty541⟩) (by assumption) ?tr541
            case ty541 => (intro w hSw; (try dsimp only at hSw); go_simp; (try with_reducible rfl))
            try simp only [List.getElem_toArray, List.getElem_cons_succ, List.getElem_cons_zero, Act.put, List.setIfInBounds_toArray, List.set_cons_zero, List.set_cons_succ]
            refine Hd.take (i := 1) (v := ?tv542) hok rfl (by kernel_rfl) (fun _ _ _ h => h) (Or.inl ⟨by rfl, ?ty542⟩) (by assumption) ?tr542
            case ty542 => (intro w hSw; (try dsimp only at hSw); go_simp; (try with_reducible rfl))
            try simp only [List.getElem_toArray, List.getElem_cons_succ, List.getElem_cons_zero, Act.put, List.setIfInBounds_toArray, List.set_cons_zero, List.set_cons_succ]
            refine Hd.take (i := 2) (v := ?tv543) hok rfl (by kernel_rfl) (fun _ _ _ h => h) (Or.inl ⟨by rfl, ?ty543⟩) (by assumption) ?tr543
            case ty543 => (intro w hSw; (try dsimp only at hSw); go_simp; (try with_reducible rfl))
            try simp only [List.getElem_toArray, List.getElem_cons_succ, List.getElem_cons_zero, Act.put, List.setIfInBounds_toArray, List.set_cons_zero, List.set_cons_succ]
            refine Hd.take (i := 3) (v := ?tv544) hok rfl (by kernel_rfl) (fun _ _ _ h => h) (Or.inl ⟨by rfl, ?ty544⟩) (by assumption) ?tr544
            case ty544 => (intro w hSw; (try dsimp only at hSw); go_simp; (try with_reducible rfl))
            try simp only [List.getElem_toArray, List.getElem_cons_succ, List.getElem_cons_zero, Act.put, List.setIfInBounds_toArray, List.set_cons_zero, List.set_cons_succ]
            refine Hd.take (i := 4) (v := ?tv545) hok rfl (by kernel_rfl) (fun _ _ _ h => h) (Or.inl ⟨by rfl, ?ty545⟩) (by assumption) ?tr545
            case ty545 => (intro w hSw; (try dsimp only at hSw); go_simp; (try with_reducible rfl))
            try simp only [List.getElem_toArray, List.getElem_cons_succ, List.getElem_cons_zero, Act.put, List.setIfInBounds_toArray, List.set_cons_zero, List.set_cons_succ]
            refine Hd.take (i := 5) (v := ?tv546) hok rfl (by kernel_rfl) (fun _ _ _ h => h) (Or.inl ⟨by rfl, ?ty546⟩) (by assumption) ?tr546
            case ty546 => (intro w hSw; (try dsimp only at hSw); go_simp; (try with_reducible rfl))
            try simp only [List.getElem_toArray, List.getElem_cons_succ, List.getElem_cons_zero, Act.put, List.setIfInBounds_toArray, List.set_cons_zero, List.set_cons_succ]
            refine Hd.take (i := 6) (v := ?tv547) hok rfl (by kernel_rfl) (fun _ _ _ h => h) (Or.inl ⟨by rfl, ?ty547⟩) (by assumption) ?tr547
            case ty547 => (intro w hSw; (try dsimp only at hSw); go_simp; (try with_reducible rfl))
            try simp only [List.getElem_toArray, List.getElem_cons_succ, List.getElem_cons_zero, Act.put, List.setIfInBounds_toArray, List.set_cons_zero, List.set_cons_succ]
            refine Hd.take (i := 7) (v := ?tv548) hok rfl (by kernel_rfl) (fun _ _ _ h => h) (Or.inl ⟨by rfl, ?ty548⟩) (by assumption) ?tr548
            case ty548 => (intro w hSw; (try dsimp only at hSw); go_simp; (try with_reducible rfl))
            try simp only [List.getElem_toArray, List.getElem_cons_succ, List.getElem_cons_zero, Act.put, List.setIfInBounds_toArray, List.set_cons_zero, List.set_cons_succ]
            refine Hd.take (i := 8) (v := ?tv549) hok rfl (by kernel_rfl) (fun _ _ _ h => h) (Or.inl ⟨by rfl, ?ty549⟩) (by assumption) ?tr549
            case ty549 => (intro w hSw; (try dsimp only at hSw); go_simp; (try with_reducible rfl))
            try simp only [List.getElem_toArray, List.getElem_cons_succ, List.getElem_cons_zero, Act.put, List.setIfInBounds_toArray, List.set_cons_zero, List.set_cons_succ]
            refine Hd.take (i := 9) (v := ?tv550) hok rfl (by kernel_rfl) (fun _ _ _ h => h) (Or.inl ⟨by rfl, ?ty550⟩) (by assumption) ?tr550
            case ty550 => (intro w hSw; (try dsimp only at hSw); go_simp; (try with_reducible rfl))
            try simp only [List.getElem_toArray, List.getElem_cons_succ, List.getElem_cons_zero, Act.put, List.setIfInBounds_toArray, List.set_cons_zero, List.set_cons_succ]
            refine Hd.two (i := 10) (k := 11) rfl rfl (by kernel_rfl) (fun K hK => ?_) (fun K hK => ?_)
            · go_simp
              have hzn := (Zoo.nil Wd).newBox [.int .u64 0, .slice none 0 0, .int .u64 0, .string ⟨#[]⟩, .int .u64 0].toArray 50
              have hb1 := hbd.trans (((Below.refl Wd.heap.size Wd).alloc (Nat.le_refl _) (.cells [.int .u64 0, .slice none 0 0, .int .u64 0, .string ⟨#[]⟩, .int .u64 0].toArray 50)).mono hbd.size)
              have hP0 : wr.heap.size ≤ Wd.heap.size := hbd.size
              generalize (Wd.alloc (.cells [.int .u64 0, .slice none 0 0, .int .u64 0, .string ⟨#[]⟩, .int .u64 0].toArray 50)) = We at hzn hb1 ⊢
              generalize hPA : Wd.heap.size = PA at hzn hP0 ⊢
              have hSn := hS.out _ hb1
              refine hK _ _ hSn ?_
              clear hK K
              try simp only [List.getElem_toArray, List.getElem_cons_succ, List.getElem_cons_zero, Act.put, List.setIfInBounds_toArray, List.set_cons_zero, List.set_cons_succ]
              refine Hd.one (i := 11) rfl (by kernel_rfl) (fun K hK => ?_)
              go_simp
              have hzn2 := hzn.newBox [.int .u64 0, .slice none 0 0, .int .u64 0, .string ⟨#[]⟩, .int .u64 0].toArray 50
              have hb2 := hb1.trans (((Below.refl We.heap.size We).alloc (Nat.le_refl _) (.cells [.int .u64 0, .slice none 0 0, .int .u64 0, .string ⟨#[]⟩, .int .u64 0].toArray 50)).mono hb1.size)
              have hP1 : wr.heap.size ≤ We.heap.size := hb1.size
              generalize (We.alloc (.cells [.int .u64 0, .slice none 0 0, .int .u64 0, .string ⟨#[]⟩, .int .u64 0].toArray 50)) = Wf at hzn2 hb2 ⊢
              generalize We.heap.size = PB at hzn2 hP1 ⊢
              have hSn := hS.out _ hb2
              refine hK _ _ hSn ?_
              clear hK K
              try simp only [List.getElem_toArray, List.getElem_cons_succ, List.getElem_cons_zero, Act.put, List.setIfInBounds_toArray, List.set_cons_zero, List.set_cons_succ]
              refine Hd.one (i := 12) rfl (by kernel_rfl) (fun K hK => ?_)
              have hs1 := hzn2.boxSome (B := PA) (C := [.int .u64 0, .slice none 0 0, .int .u64 0, .string ⟨#[]⟩, .int .u64 0]) (t := 50) 1 rfl
              refine wp_store_op rfl 50 (.tmp 12) (.tmp 99) rfl PA 0 [.int .u64 x.x.uid, .slice x.a x.x.flags.length x.c, .int .u64 x.x.mod, .string x.x.hash, .int .u64 x.x.size] rfl rfl Tryz.sizeOf50 (ltT.one x) hs1.1 hs1.2 ?_
              have hzF := hzn2.fillBox (B := PA) (C := [.int .u64 0, .slice none 0 0, .int .u64 0, .string ⟨#[]⟩, .int .u64 0]) (t := 50) 1 rfl [.int .u64 x.x.uid, .slice x.a x.x.flags.length x.c, .int .u64 x.x.mod, .string x.x.hash, .int .u64 x.x.size] rfl
              have hbF := bel_sets hb2 PA [.int .u64 x.x.uid, .slice x.a x.x.flags.length x.c, .int .u64 x.x.mod, .string x.x.hash, .int .u64 x.x.size] (by assumption)
              clear hs1
              generalize Wf.setCells PA 0 [.int .u64 x.x.uid, .slice x.a x.x.flags.length x.c, .int .u64 x.x.mod, .string x.x.hash, .int .u64 x.x.size] = Wg at hzF hbF ⊢
              have hSn := hS.out _ hbF
              refine hK _ _ hSn ?_
              clear hK K
              try simp only [List.getElem_toArray, List.getElem_cons_succ, List.getElem_cons_zero, Act.put, List.setIfInBounds_toArray, List.set_cons_zero, List.set_cons_succ]
              refine Hd.done (by kernel_rfl) ?_
              simp only [List.drop_succ_cons, List.drop_zero]
              have hs1 := Zoo.boxSome (B := PB) (C := [.int .u64 0, .slice none 0 0, .int .u64 0, .string ⟨#[]⟩, .int .u64 0]) (t := 50) hzF 0 rfl
              refine wpList_store_cells rfl 50 (.tmp 13) (.tmp 104) rfl PB 0 [.int .u64 z.x.uid, .slice z.a z.x.flags.length z.c, .int .u64 z.x.mod, .string z.x.hash, .int .u64 z.x.size] rfl rfl Tryz.sizeOf50 (ltT.one z) hs1.1 hs1.2 ?_
              have hzG := Zoo.fillBox (B := PB) (C := [.int .u64 0, .slice none 0 0, .int .u64 0, .string ⟨#[]⟩, .int .u64 0]) (t := 50) hzF 0 rfl [.int .u64 z.x.uid, .slice z.a z.x.flags.length z.c, .int .u64 z.x.mod, .string z.x.hash, .int .u64 z.x.size] rfl
              have hbG := bel_sets hbF PB [.int .u64 z.x.uid, .slice z.a z.x.flags.length z.c, .int .u64 z.x.mod, .string z.x.hash, .int .u64 z.x.size] (by assumption)
              clear hs1
              generalize Wg.setCells PB 0 [.int .u64 z.x.uid, .slice z.a z.x.flags.length z.c, .int .u64 z.x.mod, .string z.x.hash, .int .u64 z.x.size] = Wh at hzG hbG ⊢
              have hrel : Hid (Below wr.heap.size wr Wh ∧ Wh.heap[PA]? = some (.cells [.int .u64 x.x.uid, .slice x.a x.x.flags.length x.c, .int .u64 x.x.mod, .string x.x.hash, .int .u64 x.x.size].toArray 50 (0, 0)) ∧ Wh.heap[PB]? = some (.cells [.int .u64 z.x.uid, .slice z.a z.x.flags.length z.c, .int .u64 z.x.mod, .string z.x.hash, .int .u64 z.x.size].toArray 50 (0, 0)) ∧ wr.heap.size ≤ PA ∧ wr.heap.size ≤ PB) := Lib.hid ⟨hbG, (Zoo.box (B := PA) (C := [.int .u64 x.x.uid, .slice x.a x.x.flags.length x.c, .int .u64 x.x.mod, .string x.x.hash, .int .u64 x.x.size].toArray) (t := 50) hzG 1 rfl).1, (Zoo.box (B := PB) (C := [.int .u64 z.x.uid, .slice z.a z.x.flags.length z.c, .int .u64 z.x.mod, .string z.x.hash, .int .u64 z.x.size].toArray) (t := 50) hzG 0 rfl).1, by assumption, by assumption⟩
              clear hzF hbF hzG hbG hzn2 hb2 hzn hb1 hok hS0 hSn
              go_wp2_with fail
              go_meet
              case rel => exact ⟨PA, PB, rfl, rfl, hrel⟩
            · go_simp
              have hzn := (Zoo.nil Wd).newBox [.int .u64 0, .slice none 0 0, .int .u64 0, .string ⟨#[]⟩, .int .u64 0].toArray 50
              have hb1 := hbd.trans (((Below.refl Wd.heap.size Wd).alloc (Nat.le_refl _) (.cells [.int .u64 0, .slice none 0 0, .int .u64 0, .string ⟨#[]⟩, .int .u64 0].toArray 50)).mono hbd.size)
              have hP0 : wr.heap.size ≤ Wd.heap.size := hbd.size
              generalize (Wd.alloc (.cells [.int .u64 0, .slice none 0 0, .int .u64 0, .string ⟨#[]⟩, .int .u64 0].toArray 50)) = We at hzn hb1 ⊢
              generalize hPA : Wd.heap.size = PA at hzn hP0 ⊢
              have hSn := hS.out _ hb1
              refine hK _ _ hSn ?_
              clear hK K
              try simp only [List.getElem_toArray, List.getElem_cons_succ, List.getElem_cons_zero, Act.put, List.setIfInBounds_toArray, List.set_cons_zero, List.set_cons_succ]
              refine Hd.one (i := 10) rfl (by kernel_rfl) (fun K hK => ?_)
              go_simp
              have hzn2 := hzn.newBox [.int .u64 0, .slice none 0 0, .int .u64 0, .string ⟨#[]⟩, .int .u64 0].toArray 50
              have hb2 := hb1.trans (((Below.refl We.heap.size We).alloc (Nat.le_refl _) (.cells [.int .u64 0, .slice none 0 0, .int .u64 0, .string ⟨#[]⟩, .int .u64 0].toArray 50)).mono hb1.size)
              have hP1 : wr.heap.size ≤ We.heap.size := hb1.size
              generalize (We.alloc (.cells [.int .u64 0, .slice none 0 0, .int .u64 0, .string ⟨#[]⟩, .int .u64 0].toArray 50)) = Wf at hzn2 hb2 ⊢
              generalize We.heap.size = PB at hzn2 hP1 ⊢
              have hSn := hS.out _ hb2
              refine hK _ _ hSn ?_
              clear hK K
              try simp only [List.getElem_toArray, List.getElem_cons_succ, List.getElem_cons_zero, Act.put, List.setIfInBounds_toArray, List.set_cons_zero, List.set_cons_succ]
              refine Hd.one (i := 12) rfl (by kernel_rfl) (fun K hK => ?_)
              have hs1 := hzn2.boxSome (B := PB) (C := [.int .u64 0, .slice none 0 0, .int .u64 0, .string ⟨#[]⟩, .int .u64 0]) (t := 50) 0 rfl
              refine wp_store_op rfl 50 (.tmp 12) (.tmp 99) rfl PB 0 [.int .u64 x.x.uid, .slice x.a x.x.flags.length x.c, .int .u64 x.x.mod, .string x.x.hash, .int .u64 x.x.size] rfl rfl Tryz.sizeOf50 (ltT.one x) hs1.1 hs1.2 ?_
              have hzF := hzn2.fillBox (B := PB) (C := [.int .u64 0, .slice none 0 0, .int .u64 0, .string ⟨#[]⟩, .int .u64 0]) (t := 50) 0 rfl [.int .u64 x.x.uid, .slice x.a x.x.flags.length x.c, .int .u64 x.x.mod, .string x.x.hash, .int .u64 x.x.size] rfl
              have hbF := bel_sets hb2 PB [.int .u64 x.x.uid, .slice x.a x.x.flags.length x.c, .int .u64 x.x.mod, .string x.x.hash, .int .u64 x.x.size] (by assumption)
              clear hs1
              generalize Wf.setCells PB 0 [.int .u64 x.x.uid, .slice x.a x.x.flags.length x.c, .int .u64 x.x.mod, .string x.x.hash, .int .u64 x.x.size] = Wg at hzF hbF ⊢
              have hSn := hS.out _ hbF
              refine hK _ _ hSn ?_
              clear hK K
              try simp only [List.getElem_toArray, List.getElem_cons_succ, List.getElem_cons_zero, Act.put, List.setIfInBounds_toArray, List.set_cons_zero, List.set_cons_succ]
              refine Hd.done (by kernel_rfl) ?_
              simp only [List.drop_succ_cons, List.drop_zero]
              have hs1 := Zoo.boxSome (B := PA) (C := [.int .u64 0, .slice none 0 0, .int .u64 0, .string ⟨#[]⟩, .int .u64 0]) (t := 50) hzF 1 rfl
              refine wpList_store_cells rfl 50 (.tmp 13) (.tmp 104) rfl PA 0 [.int .u64 z.x.uid, .slice z.a z.x.flags.length z.c, .int .u64 z.x.mod, .string z.x.hash, .int .u64 z.x.size] rfl rfl Tryz.sizeOf50 (ltT.one z) hs1.1 hs1.2 ?_
              have hzG := Zoo.fillBox (B := PA) (C := [.int .u64 0, .slice none 0 0, .int .u64 0, .string ⟨#[]⟩, .int .u64 0]) (t := 50) hzF 1 rfl [.int .u64 z.x.uid, .slice z.a z.x.flags.length z.c, .int .u64 z.x.mod, .string z.x.hash, .int .u64 z.x.size] rfl
              have hbG := bel_sets hbF PA [.int .u64 z.x.uid, .slice z.a z.x.flags.length z.c, .int .u64 z.x.mod, .string z.x.hash, .int .u64 z.x.size] (by assumption)
              clear hs1
              generalize Wg.setCells PA 0 [.int .u64 z.x.uid, .slice z.a z.x.flags.length z.c, .int .u64 z.x.mod, .string z.x.hash, .int .u64 z.x.size] = Wh at hzG hbG ⊢
              have hrel : Hid (Below wr.heap.size wr Wh ∧ Wh.heap[PB]? = some (.cells [.int .u64 x.x.uid, .slice x.a x.x.flags.length x.c, .int .u64 x.x.mod, .string x.x.hash, .int .u64 x.x.size].toArray 50 (0, 0)) ∧ Wh.heap[PA]? = some (.cells [.int .u64 z.x.uid, .slice z.a z.x.flags.length z.c, .int .u64 z.x.mod, .string z.x.hash, .int .u64 z.x.size].toArray 50 (0, 0)) ∧ wr.heap.size ≤ PB ∧ wr.heap.size ≤ PA) := Lib.hid ⟨hbG, (Zoo.box (B := PB) (C := [.int .u64 x.x.uid, .slice x.a x.x.flags.length x.c, .int .u64 x.x.mod, .string x.x.hash, .int .u64 x.x.size].toArray) (t := 50) hzG 0 rfl).1, (Zoo.box (B := PA) (C := [.int .u64 z.x.uid, .slice z.a z.x.flags.length z.c, .int .u64 z.x.mod, .string z.x.hash, .int .u64 z.x.size].toArray) (t := 50) hzG 1 rfl).1, by assumption, by assumption⟩
              clear hzF hbF hzG hbG hzn2 hb2 hzn hb1 hok hS0 hSn
              go_wp2_with fail
              go_meet
              case rel => exact ⟨PB, PA, rfl, rfl, hrel⟩
          case rest =>
            obtain ⟨PX, PY, rfl, rfl, hPP⟩ := hcut
            obtain ⟨hbc0, hPX, hPY, hPX0, hPY0⟩ := hPP.out
            have hbc := Lib.hid (hbw.out.trans (hbc0.mono hbw.out.size))
            have hzc := Lib.hid (hz13.out.below hbc.out)
            have hPX' := Lib.hid (fun w' (h : Below wc.heap.size wc w') => bel_heap0 h hPX)
            have hPY' := Lib.hid (fun w' (h : Below wc.heap.size wc w') => bel_heap0 h hPY)
            obtain ⟨hbA, -⟩ := hzc.out.box (B := FA) (C := [.string nA, .int .u64 vA, .int .u64 xA, .int .u64 gA, .slice (some ⟨xb, xo, none⟩) rA.length cA].toArray) (t := 48) 1 rfl
            obtain ⟨hbR, -⟩ := hzc.out.box (B := RB) (C := (rqCells (opS q) y).toArray) (t := 41) 4 rfl
            have a0 : wc.cell? ⟨FA, 0, none⟩ = some (.string nA) := box_cell hbA 0
            have a1 : wc.cell? ⟨FA, 1, none⟩ = some (.int .u64 vA) := box_cell hbA 1
            have a2 : wc.cell? ⟨FA, 2, none⟩ = some (.int .u64 xA) := box_cell hbA 2
            have a3 : wc.cell? ⟨FA, 3, none⟩ = some (.int .u64 gA) := box_cell hbA 3
            have a4 : wc.cell? ⟨FA, 4, none⟩ = some (.slice (some ⟨xb, xo, none⟩) rA.length cA) := box_cell hbA 4
            have p0 : wc.cell? ⟨PX, 0, none⟩ = some (.int .u64 x.x.uid) := box_cell hPX 0
            have p1 : wc.cell? ⟨PX, 1, none⟩ = some (.slice x.a x.x.flags.length x.c) := box_cell hPX 1
            have p2 : wc.cell? ⟨PX, 2, none⟩ = some (.int .u64 x.x.mod) := box_cell hPX 2
            have p3 : wc.cell? ⟨PX, 3, none⟩ = some (.string x.x.hash) := box_cell hPX 3
            have p4 : wc.cell? ⟨PX, 4, none⟩ = some (.int .u64 x.x.size) := box_cell hPX 4
            have r9 : wc.cell? ⟨RB, 9, none⟩ = some (.slice y.au q.uids.length y.cu) := box_cell hbR 9
            have hqc := hq0.out wc hzc.out.bel
            have hql : q.uids.length ≤ 1000000 := by have := hqo7.out.sz.ul; have h2 : (opS q).uids.length = q.uids.length := rfl; omega
            have hmc := Lib.hid (refMeant_any (W := wc) ⟨nA, vA, xA, gA, rA, some ⟨xb, xo, none⟩, cA⟩ x q.uids y.au y.cu (hA13.out wc hbc.out) hqc.1 (by show rA.length ≤ 1000000; omega) hql)
            have hMm : Hid (hasL q.uids (maxU (BxV.mk nA vA xA gA rA (some ⟨xb, xo, none⟩) cA).b.letters) x.x.uid = meantB a.letters (opS q) x.x) := Lib.hid (by
              show hasL q.uids (maxU (rA.map LtV.x)) x.x.uid = hasL q.uids (mostB a.letters) x.x.uid
              rw [hal.out, maxU_up hbp.out.up])
            have hfX' := Lib.hid (fun w' (h : Below wc.heap.size wc w') => (hfX.below (hbc0.trans (h.mono hbc0.size))))
            have hfY' := Lib.hid (fun w' (h : Below wc.heap.size wc w') => (hfY.below (hbc0.trans (h.mono hbc0.size))))
            clear hbA hbR hPX hPY hPP hql hqc hfX hfY hS hbc0
            go_wp2_with fail
            refine hmc.out.mono ?_
            rintro e w14 ⟨rfl, hb14⟩
            dsimp only
            rw [hMm.out]
            have hb14' := Lib.hid (hbc.out.trans (hb14.out.mono hbc.out.size))
            have hz14 := Lib.hid (hz13.out.below hb14'.out)
            obtain ⟨hbR, -⟩ := hz14.out.box (B := RB) (C := (rqCells (opS q) y).toArray) (t := 41) 4 rfl
            clear a0 a1 a2 a3 a4 p0 p1 p2 p3 p4 r9 hmc hMm hzc
            have p0 : w14.cell? ⟨PX, 0, none⟩ = some (.int .u64 x.x.uid) := box_cell (hPX'.out _ hb14.out) 0
            have p1 : w14.cell? ⟨PX, 1, none⟩ = some (.slice x.a x.x.flags.length x.c) := box_cell (hPX'.out _ hb14.out) 1
            have p2 : w14.cell? ⟨PX, 2, none⟩ = some (.int .u64 x.x.mod) := box_cell (hPX'.out _ hb14.out) 2
            have r10 : w14.cell? ⟨RB, 10, none⟩ = some (.slice y.af q.flags.length y.cf) := box_cell hbR 10
            have r11 : w14.cell? ⟨RB, 11, none⟩ = some (.int .i64 q.how) := box_cell hbR 11
            have r12 : w14.cell? ⟨RB, 12, none⟩ = some (.bool q.has) := box_cell hbR 12
            have r13 : w14.cell? ⟨RB, 13, none⟩ = some (.int .u64 q.since) := box_cell hbR 13
            obtain ⟨M, hM⟩ : ∃ M, meantB a.letters (opS q) x.x = M := ⟨_, rfl⟩
            obtain ⟨G, hG⟩ : ∃ G, (q.has && decide (q.since < x.x.mod)) = G := ⟨_, rfl⟩
            rw [hM]
            replace hM := Lib.hid hM
            clear hbR
            go_upto_region 17 with fail
            go_cut [15] (fun v15 wx => v15 = .bool (M && G) ∧ wx = w14)
            case first =>
              cases M with
              | false =>
                go_wp2_with fail
                go_meet
                case rel => exact ⟨rfl, rfl⟩
              | true =>
                cases hqh : q.has with
                | false =>
                  rw [hqh] at hG r12
                  have hG2 : G = false := by rw [← hG]; rfl
                  go_wp2_with fail
                  go_meet
                  case rel => exact ⟨by rw [hG2]; rfl, rfl⟩
                | true =>
                  rw [hqh] at hG r12
                  by_cases hgt : q.since < x.x.mod
                  · have hG2 : Hid (G = true) := Lib.hid (by rw [← hG, decide_eq_true hgt]; rfl)
                    have hgi : (q.since : Int) < (x.x.mod : Int) := by omega
                    have hgd := decide_eq_true hgi
                    clear hG
                    go_wp2_with fail
                    go_meet
                    case rel => exact ⟨by rw [hG2.out]; rfl, rfl⟩
                  · have hG2 : Hid (G = false) := Lib.hid (by rw [← hG, decide_eq_false hgt]; rfl)
                    have hgi : ¬ (q.since : Int) < (x.x.mod : Int) := by omega
                    have hgd := decide_eq_false hgi
                    clear hG
                    go_wp2_with fail
                    go_meet
                    case rel => exact ⟨by rw [hG2.out]; rfl, rfl⟩
            case rest =>
              obtain ⟨rfl, rfl⟩ := hcut
              replace hG := Lib.hid hG
              have hqc := hq0.out _ hz14.out.bel
              have hxl := right_16 (hbp.out.lets x.x hxm.out).fl
              have hch := Lib.hid (refChange_any _ _ x.x.flags q.flags q.how _ (hfX'.out _ hb14.out) hqc.2 (by omega) (by have := hqo7.out.sz.fl; have h2 : (opS q).flags.length = q.flags.length := rfl; omega) (right_sized (hbp.out.lets x.x hxm.out).fl) hqo7.out.sz.sz)
              clear hqc
              go_wp2_with fail
              refine hch.out.mono ?_
              rintro e w15 ⟨vF, rfl, hF, hb15⟩
              dsimp only
              have hbD := Lib.hid (hb15.out)
              have hF0 : Hid (∀ w', Below w15.heap.size w15 w' → Rd w' vF (chSet x.x.flags q.how q.flags).length ((chSet x.x.flags q.how q.flags).map encStr)) := Lib.hid (fun w' h => Rd.below hF.out h)
              obtain ⟨fa, fc, rfl, -⟩ := hF.out
              have hdd : Hid (stDone a.letters (opS q) x.x = (M && !G)) := Lib.hid (by unfold stDone; rw [hM.out]; exact congrArg (fun g => M && !g) hG.out)
              have hhh : Hid (stHeld a.letters (opS q) x.x = (M && G)) := Lib.hid (by unfold stHeld; rw [hM.out]; exact congrArg (fun g => M && g) hG.out)
              clear p0 p1 p2 r10 r11 r12 r13 hch hF
              obtain ⟨D, hDe⟩ : ∃ D, (M && !G) = D := ⟨_, rfl⟩
              rw [hDe] at hdd
              cases D with
              | true =>
                obtain ⟨rfl, rfl⟩ : M = true ∧ G = false := by cases M <;> cases G <;> simp_all
                clear hDe
                have hD := hdd
                have hH : Hid (¬ stHeld a.letters (opS q) x.x = true) := Lib.hid (by rw [hhh.out]; decide)
                obtain ⟨T, hT⟩ : ∃ T, decide (chSet x.x.flags q.how q.flags = x.x.flags) = T := ⟨_, rfl⟩
                have hzf : Hid (z.x.flags = chSet x.x.flags q.how q.flags) := Lib.hid (by
                  rw [hzx.out]; unfold stNew stTurns; rw [hdd.out, show chSet x.x.flags (opS q).how (opS q).flags = chSet x.x.flags q.how q.flags from rfl, hT]
                  cases T with
                  | true => exact (of_decide_eq_true hT).symm
                  | false => rfl)
                have hzm : Hid (((z.x.mod : Int) == (x.x.mod : Int)) = T) := Lib.hid (by
                  rw [hzx.out]; unfold stNew stTurns; rw [hdd.out, show chSet x.x.flags (opS q).how (opS q).flags = chSet x.x.flags q.how q.flags from rfl, hT]
                  cases T with
                  | true => simp
                  | false =>
                    have h1 := (hbp.out.lets x.x hxm.out).m2
                    show (((a.high + 1 : Nat) : Int) == (x.x.mod : Int)) = false
                    rw [beq_eq_false_iff_ne]; omega)
                have hchl : (chSet x.x.flags q.how q.flags).length ≤ 16 := chSet_len _ _ _
                have hsA := Lib.hid (fun w' (h : Below w15.heap.size w15 w') => same_any z.v (.slice fa (chSet x.x.flags q.how q.flags).length fc) z.x.flags (chSet x.x.flags q.how q.flags) w' (hfY'.out _ (hb14.out.trans ((hbD.out.trans (h.mono hbD.out.size)).mono hb14.out.size))) (hF0.out w' h) (by rw [hzf.out]; omega))
                have hsB := Lib.hid (fun w' (h : Below w15.heap.size w15 w') => same_any (.slice fa (chSet x.x.flags q.how q.flags).length fc) x.v (chSet x.x.flags q.how q.flags) x.x.flags w' (hF0.out w' h) (hfX'.out _ (hb14.out.trans ((hbD.out.trans (h.mono hbD.out.size)).mono hb14.out.size))) (by omega))
                rw [decide_eq_true hzf.out] at hsA
                rw [hT] at hsB
                have hS20 : Hid (∀ w', Below w15.heap.size w15 w' → w'.cell? ⟨PY, 1, none⟩ = some (.slice z.a z.x.flags.length z.c) ∧ w'.cell? ⟨PY, 2, none⟩ = some (.int .u64 z.x.mod) ∧ w'.cell? ⟨PX, 2, none⟩ = some (.int .u64 x.x.mod) ∧ w'.cell? ⟨PX, 1, none⟩ = some (.slice x.a x.x.flags.length x.c)) := Lib.hid (fun w' h => by
                  have hbb := hb14.out.trans ((hbD.out.trans (h.mono hbD.out.size)).mono hb14.out.size)
                  exact ⟨box_cell (hPY'.out _ hbb) 1, box_cell (hPY'.out _ hbb) 2, box_cell (hPX'.out _ hbb) 2, box_cell (hPX'.out _ hbb) 1⟩)
                generalize (chSet x.x.flags q.how q.flags).length = fl at *
                go_upto_region 20 with fail
                have hbd : Below w15.heap.size w15 w15.drew := (Below.refl _ _).drew
                have hzmo := hzm.out
                have hTT : (T != T) = false := by simp
                refine wp_region_hd (fun w' => w'.cell? ⟨PY, 1, none⟩ = some (.slice z.a z.x.flags.length z.c) ∧ w'.cell? ⟨PY, 2, none⟩ = some (.int .u64 z.x.mod) ∧ w'.cell? ⟨PX, 2, none⟩ = some (.int .u64 x.x.mod) ∧ w'.cell? ⟨PX, 1, none⟩ = some (.slice x.a x.x.flags.length x.c)) 16 1 (by kernel_rfl) rfl ⟨by kernel_rfl, by kernel_rfl, by kernel_rfl, by decide⟩ (hS20.out _ hbd) (fun hok hS0 => ?_)
                generalize w15.drew = Wd at *
                refine Hd.take (i := 0) (v := ?tv551) hok rfl (by kernel_rfl) (fun _ _ _ h => h) (Or.inl ⟨by rfl, ?ty551⟩) (by assumption) ?tr551
                case ty551 => (intro w hSw; (try dsimp only at hSw); go_simp; (try with_reducible rfl))
                try simp only [List.getElem_toArray, List.getElem_cons_succ, List.getElem_cons_zero, Act.put, List.setIfInBounds_toArray, List.set_cons_zero, List.set_cons_succ]
                refine Hd.take (i := 1) (v := ?tv552) hok rfl (by kernel_rfl) (fun _ _ _ h => h) (Or.inl ⟨by rfl, ?ty552⟩) (by assumption) ?tr552
                case ty552 => (intro w hSw; (try dsimp only at hSw); go_simp; (try with_reducible rfl))
                try simp only [List.getElem_toArray, List.getElem_cons_succ, List.getElem_cons_zero, Act.put, List.setIfInBounds_toArray, List.set_cons_zero, List.set_cons_succ]
                refine Hd.take (i := 2) (v := ?tv553) hok rfl (by kernel_rfl) (fun _ _ _ h => h) (Or.inl ⟨by rfl, ?ty553⟩) (by assumption) ?tr553
                case ty553 => (intro w hSw; (try dsimp only at hSw); go_simp; (try with_reducible rfl))
                try simp only [List.getElem_toArray, List.getElem_cons_succ, List.getElem_cons_zero, Act.put, List.setIfInBounds_toArray, List.set_cons_zero, List.set_cons_succ]
                refine Hd.one (i := 3) rfl (by kernel_rfl) (fun K hK => ?_)
                go_simp
                refine (hsA.out _ hbd).mono ?_
                rintro e w17 ⟨rfl, hb17⟩
                dsimp only
                have hb18 := hbd.trans (hb17.mono hbd.size)
                have hSn := hS20.out _ hb18
                refine hK _ _ hSn ?_
                clear hK K
                try simp only [List.getElem_toArray, List.getElem_cons_succ, List.getElem_cons_zero, Act.put, List.setIfInBounds_toArray, List.set_cons_zero, List.set_cons_succ]
                refine Hd.take (i := 4) (v := ?tv554) hok rfl (by kernel_rfl) (fun _ _ _ h => h) (Or.inl ⟨by rfl, ?ty554⟩) (by assumption) ?tr554
                case ty554 => (intro w hSw; (try dsimp only at hSw); go_simp; (try with_reducible rfl))
                try simp only [List.getElem_toArray, List.getElem_cons_succ, List.getElem_cons_zero, Act.put, List.setIfInBounds_toArray, List.set_cons_zero, List.set_cons_succ]
                refine Hd.take (i := 5) (v := ?tv555) hok rfl (by kernel_rfl) (fun _ _ _ h => h) (Or.inl ⟨by rfl, ?ty555⟩) (by assumption) ?tr555
                case ty555 => (intro w hSw; (try dsimp only at hSw); go_simp; (try with_reducible rfl))
                try simp only [List.getElem_toArray, List.getElem_cons_succ, List.getElem_cons_zero, Act.put, List.setIfInBounds_toArray, List.set_cons_zero, List.set_cons_succ]
                refine Hd.take (i := 6) (v := ?tv556) hok rfl (by kernel_rfl) (fun _ _ _ h => h) (Or.inl ⟨by rfl, ?ty556⟩) (by assumption) ?tr556
                case ty556 => (intro w hSw; (try dsimp only at hSw); go_simp; (try with_reducible rfl))
                try simp only [List.getElem_toArray, List.getElem_cons_succ, List.getElem_cons_zero, Act.put, List.setIfInBounds_toArray, List.set_cons_zero, List.set_cons_succ]
                refine Hd.take (i := 7) (v := ?tv557) hok rfl (by kernel_rfl) (fun _ _ _ h => h) (Or.inl ⟨by rfl, ?ty557⟩) (by assumption) ?tr557
                case ty557 => (intro w hSw; (try dsimp only at hSw); go_simp; (try with_reducible rfl))
                try simp only [List.getElem_toArray, List.getElem_cons_succ, List.getElem_cons_zero, Act.put, List.setIfInBounds_toArray, List.set_cons_zero, List.set_cons_succ]
                refine Hd.take (i := 8) (v := ?tv558) hok rfl (by kernel_rfl) (fun _ _ _ h => h) (Or.inl ⟨by rfl, ?ty558⟩) (by assumption) ?tr558
                case ty558 => (intro w hSw; (try dsimp only at hSw); go_simp; (try with_reducible rfl))
                try simp only [List.getElem_toArray, List.getElem_cons_succ, List.getElem_cons_zero, Act.put, List.setIfInBounds_toArray, List.set_cons_zero, List.set_cons_succ]
                refine Hd.take (i := 9) (v := ?tv559) hok rfl (by kernel_rfl) (fun _ _ _ h => h) (Or.inl ⟨by rfl, ?ty559⟩) (by assumption) ?tr559
                case ty559 => (intro w hSw; (try dsimp only at hSw); go_simp; (try with_reducible rfl))
                try simp only [List.getElem_toArray, List.getElem_cons_succ, List.getElem_cons_zero, Act.put, List.setIfInBounds_toArray, List.set_cons_zero, List.set_cons_succ]
                refine Hd.take (i := 10) (v := ?tv560) hok rfl (by kernel_rfl) (fun _ _ _ h => h) (Or.inl ⟨by rfl, ?ty560⟩) (by assumption) ?tr560
                case ty560 => (intro w hSw; (try dsimp only at hSw); go_simp; (try with_reducible rfl))
                try simp only [List.getElem_toArray, List.getElem_cons_succ, List.getElem_cons_zero, Act.put, List.setIfInBounds_toArray, List.set_cons_zero, List.set_cons_succ]
                refine Hd.take (i := 11) (v := ?tv561) hok rfl (by kernel_rfl) (fun _ _ _ h => h) (Or.inl ⟨by rfl, ?ty561⟩) (by assumption) ?tr561
                case ty561 => (intro w hSw; (try dsimp only at hSw); go_simp; (try with_reducible rfl))
                try simp only [List.getElem_toArray, List.getElem_cons_succ, List.getElem_cons_zero, Act.put, List.setIfInBounds_toArray, List.set_cons_zero, List.set_cons_succ]
                refine Hd.take (i := 12) (v := ?tv562) hok rfl (by kernel_rfl) (fun _ _ _ h => h) (Or.inl ⟨by rfl, ?ty562⟩) (by assumption) ?tr562
                case ty562 => (intro w hSw; (try dsimp only at hSw); go_simp; (try with_reducible rfl))
                try simp only [List.getElem_toArray, List.getElem_cons_succ, List.getElem_cons_zero, Act.put, List.setIfInBounds_toArray, List.set_cons_zero, List.set_cons_succ]
                refine Hd.take (i := 13) (v := ?tv563) hok rfl (by kernel_rfl) (fun _ _ _ h => h) (Or.inl ⟨by rfl, ?ty563⟩) (by assumption) ?tr563
                case ty563 => (intro w hSw; (try dsimp only at hSw); go_simp; (try with_reducible rfl))
                try simp only [List.getElem_toArray, List.getElem_cons_succ, List.getElem_cons_zero, Act.put, List.setIfInBounds_toArray, List.set_cons_zero, List.set_cons_succ]
                refine Hd.one (i := 14) rfl (by kernel_rfl) (fun K hK => ?_)
                go_simp
                refine (hsB.out _ hb18).mono ?_
                rintro e wE ⟨rfl, hb19⟩
                dsimp only
                have hb20 := Lib.hid (hbD.out.trans ((hb18.trans (hb19.mono hb18.size)).mono hbD.out.size))
                have hSn := hS20.out _ (hb18.trans (hb19.mono hb18.size))
                refine hK _ _ hSn ?_
                clear hK K
                try simp only [List.getElem_toArray, List.getElem_cons_succ, List.getElem_cons_zero, Act.put, List.setIfInBounds_toArray, List.set_cons_zero, List.set_cons_succ]
                refine Hd.take (i := 15) (v := ?tv564) hok rfl (by kernel_rfl) (fun _ _ _ h => h) (Or.inl ⟨by rfl, ?ty564⟩) (by assumption) ?tr564
                case ty564 => (intro w hSw; (try dsimp only at hSw); go_simp; (try with_reducible rfl))
                try simp only [List.getElem_toArray, List.getElem_cons_succ, List.getElem_cons_zero, Act.put, List.setIfInBounds_toArray, List.set_cons_zero, List.set_cons_succ]
                refine Hd.done (by kernel_rfl) ?_
                simp only [List.drop_succ_cons, List.drop_zero]
                clear hok hS0 hsA hsB hb17 hb18 hb19 hbd hS20
                go_upto_region 24 with fail
                have hz24 := Lib.hid (hz14.out.below hb20.out)
                have hb24 := Lib.hid (hb14'.out.trans (hb20.out.mono hb14'.out.size))
                have hO := (hO13.out.below hb24.out).now
                obtain ⟨aU, cU, aM, cM, hov, hou, hom⟩ := hO
                injection hov with hov
                have hov2 := congrArg Array.toList hov
                simp only [List.cons.injEq, Value.slice.injEq] at hov2
                obtain ⟨-, -, -, ⟨rfl, -, rfl⟩, ⟨rfl, -, rfl⟩, -⟩ := hov2
                obtain ⟨hbO, -⟩ := hz24.out.box (B := TB + 1) (C := [.int .i64 o1.code, .int .u64 o1.session, .int .u64 o1.validity, .slice aU1 o1.uids.length cU1, .slice aM1 o1.mods.length cM1].toArray) (t := 35) 2 rfl
                have o3 : wE.cell? ⟨TB + 1, 3, none⟩ = some (.slice aU1 o1.uids.length cU1) := box_cell hbO 3
                have o4 : wE.cell? ⟨TB + 1, 4, none⟩ = some (.slice aM1 o1.mods.length cM1) := box_cell hbO 4
                have q0 : wE.cell? ⟨PX, 0, none⟩ = some (.int .u64 x.x.uid) := box_cell (hPX'.out _ (hb14.out.trans (hb20.out.mono hb14.out.size))) 0
                rw [cells_u64] at hou hom
                have hUl : o1.uids.length ≤ 9223372036854775807 := by rw [hst.out.uids, List.length_map]; have := List.length_filter_le (stDone a.letters (opS q)) a.letters; have h2 := hbp.out.len; omega
                have hMl : o1.mods.length ≤ 9223372036854775807 := by rw [hst.out.mods, List.length_map]; have := List.length_filter_le (stHeld a.letters (opS q)) a.letters; have h2 := hbp.out.len; omega
                have hUD : decide (x.x.uid ∈ o1.uids) = true := by rw [hst.out.uids, decide_eq_true_eq, mem_filter_uid hbp.out.up _ hxm.out]; exact hD.out
                have hMD : decide (x.x.uid ∈ o1.mods) = false := by rw [hst.out.mods, decide_eq_false_iff_not, mem_filter_uid hbp.out.up _ hxm.out]; exact hH.out
                have hu1 := hasN_any _ o1.uids x.x.uid wE hou hUl
                have hu2 := Lib.hid (fun w' (h : Below wE.heap.size wE w') => hasN_any _ o1.mods x.x.uid w' (hom.below h) hMl)
                rw [hUD] at hu1
                rw [hMD] at hu2
                replace hu1 := Lib.hid hu1
                clear hou hom hbO hov hUl hMl hUD hMD
                go_wp2_with fail
                refine hu1.out.mono ?_
                rintro e w25 ⟨rfl, hb25⟩
                dsimp only
                have q0' := (below_cell0 hb25 q0)
                have o4' := (below_cell0 hb25 o4)
                clear q0 o3 o4
                go_wp2_with fail
                refine (hu2.out _ hb25).mono ?_
                rintro e w26 ⟨rfl, hb26⟩
                dsimp only
                have hbE := Lib.hid (hb24.out.trans ((hb25.trans (hb26.mono hb25.size)).mono hb24.out.size))
                clear q0' o4' hu1 hu2 hb25 hb26
                go_wp2_with fail
                go_roundw
                case rel => exact ⟨j + 1, by go_num, by omega, hbE⟩
                case measure => simp [intOf] <;> omega
              | false =>
                have hD : Hid (¬ stDone a.letters (opS q) x.x = true) := Lib.hid (by rw [hdd.out]; decide)
                have hsm : z.x = x.x := by
                  rw [hzx.out]; unfold stNew stTurns; rw [hdd.out]; rfl
                have hsl := Lib.hid (sameLt_any (W := w15) x z (hfX'.out _ (hb14.out.trans (hbD.out.mono hb14.out.size))) (hfY'.out _ (hb14.out.trans (hbD.out.mono hb14.out.size))) (by omega))
                have hbb := hb14.out.trans (hbD.out.mono hb14.out.size)
                have p0 : w15.cell? ⟨PX, 0, none⟩ = some (.int .u64 x.x.uid) := box_cell (hPX'.out _ hbb) 0
                have p1 : w15.cell? ⟨PX, 1, none⟩ = some (.slice x.a x.x.flags.length x.c) := box_cell (hPX'.out _ hbb) 1
                have p2 : w15.cell? ⟨PX, 2, none⟩ = some (.int .u64 x.x.mod) := box_cell (hPX'.out _ hbb) 2
                have p3 : w15.cell? ⟨PX, 3, none⟩ = some (.string x.x.hash) := box_cell (hPX'.out _ hbb) 3
                have p4 : w15.cell? ⟨PX, 4, none⟩ = some (.int .u64 x.x.size) := box_cell (hPX'.out _ hbb) 4
                have s0 : w15.cell? ⟨PY, 0, none⟩ = some (.int .u64 z.x.uid) := box_cell (hPY'.out _ hbb) 0
                have s1 : w15.cell? ⟨PY, 1, none⟩ = some (.slice z.a z.x.flags.length z.c) := box_cell (hPY'.out _ hbb) 1
                have s2 : w15.cell? ⟨PY, 2, none⟩ = some (.int .u64 z.x.mod) := box_cell (hPY'.out _ hbb) 2
                have s3 : w15.cell? ⟨PY, 3, none⟩ = some (.string z.x.hash) := box_cell (hPY'.out _ hbb) 3
                have s4 : w15.cell? ⟨PY, 4, none⟩ = some (.int .u64 z.x.size) := box_cell (hPY'.out _ hbb) 4
                replace hsm := Lib.hid hsm
                clear hbb
                obtain ⟨rfl, rfl⟩ | ⟨rfl, hGG⟩ : (M = true ∧ G = true) ∨ (M = false ∧ True) := by cases M <;> cases G <;> simp_all
                · have hH : Hid (stHeld a.letters (opS q) x.x = true) := hhh
                  clear hDe
                  go_wp2_with fail
                  refine hsl.out.mono ?_
                  rintro e w16 ⟨B, rfl, hB, hb16⟩
                  obtain rfl : B = true := hB.out.2 hsm.out.symm
                  dsimp only
                  have hb17 := Lib.hid (hbD.out.trans (hb16.out.mono hbD.out.size))
                  clear p0 p1 p2 p3 p4 s0 s1 s2 s3 s4 hsl hB hb16
                  go_upto_region 24 with fail
                  have hz24 := Lib.hid (hz14.out.below hb17.out)
                  have hb24 := Lib.hid (hb14'.out.trans (hb17.out.mono hb14'.out.size))
                  have hO := (hO13.out.below hb24.out).now
                  obtain ⟨aU, cU, aM, cM, hov, hou, hom⟩ := hO
                  injection hov with hov
                  have hov2 := congrArg Array.toList hov
                  simp only [List.cons.injEq, Value.slice.injEq] at hov2
                  obtain ⟨-, -, -, ⟨rfl, -, rfl⟩, ⟨rfl, -, rfl⟩, -⟩ := hov2
                  obtain ⟨hbO, -⟩ := hz24.out.box (B := TB + 1) (C := [.int .i64 o1.code, .int .u64 o1.session, .int .u64 o1.validity, .slice aU1 o1.uids.length cU1, .slice aM1 o1.mods.length cM1].toArray) (t := 35) 2 rfl
                  have o3 : w16.cell? ⟨TB + 1, 3, none⟩ = some (.slice aU1 o1.uids.length cU1) := box_cell hbO 3
                  have o4 : w16.cell? ⟨TB + 1, 4, none⟩ = some (.slice aM1 o1.mods.length cM1) := box_cell hbO 4
                  have q0 : w16.cell? ⟨PX, 0, none⟩ = some (.int .u64 x.x.uid) := box_cell (hPX'.out _ (hb14.out.trans (hb17.out.mono hb14.out.size))) 0
                  rw [cells_u64] at hou hom
                  have hUl : o1.uids.length ≤ 9223372036854775807 := by rw [hst.out.uids, List.length_map]; have := List.length_filter_le (stDone a.letters (opS q)) a.letters; have h2 := hbp.out.len; omega
                  have hMl : o1.mods.length ≤ 9223372036854775807 := by rw [hst.out.mods, List.length_map]; have := List.length_filter_le (stHeld a.letters (opS q)) a.letters; have h2 := hbp.out.len; omega
                  have hUD : decide (x.x.uid ∈ o1.uids) = false := by rw [hst.out.uids, decide_eq_false_iff_not, mem_filter_uid hbp.out.up _ hxm.out]; exact hD.out
                  have hMD : decide (x.x.uid ∈ o1.mods) = true := by rw [hst.out.mods, decide_eq_true_eq, mem_filter_uid hbp.out.up _ hxm.out]; exact hH.out
                  have hu1 := hasN_any _ o1.uids x.x.uid w16 hou hUl
                  have hu2 := Lib.hid (fun w' (h : Below w16.heap.size w16 w') => hasN_any _ o1.mods x.x.uid w' (hom.below h) hMl)
                  rw [hUD] at hu1
                  rw [hMD] at hu2
                  replace hu1 := Lib.hid hu1
                  clear hou hom hbO hov hUl hMl hUD hMD
                  go_wp2_with fail
                  refine hu1.out.mono ?_
                  rintro e w25 ⟨rfl, hb25⟩
                  dsimp only
                  have q0' := (below_cell0 hb25 q0)
                  have o4' := (below_cell0 hb25 o4)
                  clear q0 o3 o4
                  go_wp2_with fail
                  refine (hu2.out _ hb25).mono ?_
                  rintro e w26 ⟨rfl, hb26⟩
                  dsimp only
                  have hbE := Lib.hid (hb24.out.trans ((hb25.trans (hb26.mono hb25.size)).mono hb24.out.size))
                  clear q0' o4' hu1 hu2 hb25 hb26
                  go_wp2_with fail
                  go_roundw
                  case rel => exact ⟨j + 1, by go_num, by omega, hbE⟩
                  case measure => simp [intOf] <;> omega
                · have hH : Hid (¬ stHeld a.letters (opS q) x.x = true) := Lib.hid (by rw [hhh.out]; simp)
                  clear hDe hGG
                  go_wp2_with fail
                  refine hsl.out.mono ?_
                  rintro e w16 ⟨B, rfl, hB, hb16⟩
                  obtain rfl : B = true := hB.out.2 hsm.out.symm
                  dsimp only
                  have hb17 := Lib.hid (hbD.out.trans (hb16.out.mono hbD.out.size))
                  clear p0 p1 p2 p3 p4 s0 s1 s2 s3 s4 hsl hB hb16
                  go_upto_region 24 with fail
                  have hz24 := Lib.hid (hz14.out.below hb17.out)
                  have hb24 := Lib.hid (hb14'.out.trans (hb17.out.mono hb14'.out.size))
                  have hO := (hO13.out.below hb24.out).now
                  obtain ⟨aU, cU, aM, cM, hov, hou, hom⟩ := hO
                  injection hov with hov
                  have hov2 := congrArg Array.toList hov
                  simp only [List.cons.injEq, Value.slice.injEq] at hov2
                  obtain ⟨-, -, -, ⟨rfl, -, rfl⟩, ⟨rfl, -, rfl⟩, -⟩ := hov2
                  obtain ⟨hbO, -⟩ := hz24.out.box (B := TB + 1) (C := [.int .i64 o1.code, .int .u64 o1.session, .int .u64 o1.validity, .slice aU1 o1.uids.length cU1, .slice aM1 o1.mods.length cM1].toArray) (t := 35) 2 rfl
                  have o3 : w16.cell? ⟨TB + 1, 3, none⟩ = some (.slice aU1 o1.uids.length cU1) := box_cell hbO 3
                  have o4 : w16.cell? ⟨TB + 1, 4, none⟩ = some (.slice aM1 o1.mods.length cM1) := box_cell hbO 4
                  have q0 : w16.cell? ⟨PX, 0, none⟩ = some (.int .u64 x.x.uid) := box_cell (hPX'.out _ (hb14.out.trans (hb17.out.mono hb14.out.size))) 0
                  rw [cells_u64] at hou hom
                  have hUl : o1.uids.length ≤ 9223372036854775807 := by rw [hst.out.uids, List.length_map]; have := List.length_filter_le (stDone a.letters (opS q)) a.letters; have h2 := hbp.out.len; omega
                  have hMl : o1.mods.length ≤ 9223372036854775807 := by rw [hst.out.mods, List.length_map]; have := List.length_filter_le (stHeld a.letters (opS q)) a.letters; have h2 := hbp.out.len; omega
                  have hUD : decide (x.x.uid ∈ o1.uids) = false := by rw [hst.out.uids, decide_eq_false_iff_not, mem_filter_uid hbp.out.up _ hxm.out]; exact hD.out
                  have hMD : decide (x.x.uid ∈ o1.mods) = false := by rw [hst.out.mods, decide_eq_false_iff_not, mem_filter_uid hbp.out.up _ hxm.out]; exact hH.out
                  have hu1 := hasN_any _ o1.uids x.x.uid w16 hou hUl
                  have hu2 := Lib.hid (fun w' (h : Below w16.heap.size w16 w') => hasN_any _ o1.mods x.x.uid w' (hom.below h) hMl)
                  rw [hUD] at hu1
                  rw [hMD] at hu2
                  replace hu1 := Lib.hid hu1
                  clear hou hom hbO hov hUl hMl hUD hMD
                  go_wp2_with fail
                  refine hu1.out.mono ?_
                  rintro e w25 ⟨rfl, hb25⟩
                  dsimp only
                  have q0' := (below_cell0 hb25 q0)
                  have o4' := (below_cell0 hb25 o4)
                  clear q0 o3 o4
                  go_wp2_with fail
                  refine (hu2.out _ hb25).mono ?_
                  rintro e w26 ⟨rfl, hb26⟩
                  dsimp only
                  have hbE := Lib.hid (hb24.out.trans ((hb25.trans (hb26.mono hb25.size)).mono hb24.out.size))
                  clear q0' o4' hu1 hu2 hb25 hb26
                  go_wp2_with fail
                  go_roundw
                  case rel => exact ⟨j + 1, by go_num, by omega, hbE⟩
                  case measure => simp [intOf] <;> omega
        · obtain rfl : j = rA.length := by omega
          have hbF := Lib.hid (hz13.out.below hbw.out).bel
          clear hbA
          go_wp2_with fail
          go_ret
          first | exact ⟨rfl, hbF.out⟩ | (rw [← hMB.out]; exact ⟨rfl, hbF.out⟩)
    · have hbad := store_bad (m := m0) (q := opS q) rfl (by rw [hap.out]; exact hcode)
      rw [hap.out] at hbad
      obtain ⟨hb1, hb2, hb3⟩ := hbad
      dsimp only at hb1 hb2 hb3
      have hgo : ((o1.code : Int) != 0) = true := by rw [bne_iff_ne]; exact hcode
      rw [hb1] at o3
      rw [hb2] at o4
      have x0 : w9.cell? ⟨MB, 0, none⟩ = some (.slice ab0 nb0 cb0) := box_cell hbM 0
      have t0 : w9.cell? ⟨TB, 0, none⟩ = some (.slice ab1 nb1 cb1) := box_cell hbT 0
      clear hbO hbT hbM hcode hb1 hb2
      replace hb3 := Lib.hid hb3
      go_wp2_with fail
      obtain ⟨bs0, hm0, rfl, hi0⟩ := hs9.out.now.bxs
      obtain ⟨bs1, hm1, rfl, hi1⟩ := hinD.out.now.bxs
      obtain ⟨hz0, hz0'⟩ := hr0.out.bxsz hm0
      refine (sameM_yes bs0 bs1 ab0 ab1 0 0 0 cb0 cb1 hi0 hi1 (by rw [hm0, hm1]; exact hb3.out.symm) hz0 hz0').mono ?_
      rintro e wz ⟨rfl, hbz⟩
      dsimp only
      have hbF := Lib.hid (hz9.out.below hbz.out).bel
      clear hz9 hi0 hi1 hm0 hm1 hz0 hz0' x0 t0 o0 o3 o4 hbz hs9 hinD hocD
      go_wp2_with fail
      go_ret
      first | exact ⟨rfl, hbF.out⟩ | (rw [← hMB.out]; exact ⟨rfl, hbF.out⟩)
end Go.Proofs.YtdobbfjmlnlieaaGreat
