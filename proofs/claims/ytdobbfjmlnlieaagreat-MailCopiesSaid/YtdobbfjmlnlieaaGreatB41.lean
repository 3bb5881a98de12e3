/- MailCopies: walked. (written by tools/gen_MoK.py) -/
import Derived.Test.YtdobbfjmlnlieaaGreatB34
import Derived.Test.YtdobbfjmlnlieaaGreatB36
import Derived.Test.YtdobbfjmlnlieaaGreatB40
namespace Go.Proofs.YtdobbfjmlnlieaaGreat
set_option linter.unusedSimpArgs false
open Go.RowKit
attribute [local go_sem ↓] Go.wp_at_zero Go.wp_at_succ

/-- the request as a copy -/
def opC (q : Rq) : Rq := { q with op := 9 }
theorem lts_take {W : World} {a : Option Addr} {c : Nat} {l : List LtV} (h : LtsIn W (.slice a l.length c) l) (i : Nat) (hi : i ≤ l.length) : LtsIn W (.slice a i c) (l.take i) := by
  have e : (l.take i).length = i := by rw [List.length_take]; omega
  refine ⟨?_, fun y hy => h.2 y (List.mem_of_mem_take hy)⟩
  have := ltT.rd_take h.1 i hi
  exact e ▸ this
/-- a row that is only read: what a slice expression makes of it -/
theorem slice_head {W : World} {a : Option Addr} {c : Nat} {l : List LtV} (h : LtsIn W (.slice a l.length c) l) (i : Nat) (hi : i ≤ l.length) : ∃ aX cX, (∀ w, (Instr.slice 46 (.slice a l.length c) none (some (.int .i64 (i : Int))) none).run Tryz.prog w = .ok (.slice aX i cX) w) ∧ ∀ W', LtsIn W' (.slice a l.length c) l → LtsIn W' (.slice aX i cX) (l.take i) := by
  have he : Tryz.prog.elem 46 = 50 := by kernel_rfl
  have hu : Tryz.prog.underlying 46 = some (.slice (Tryz.prog.elem 46)) := by rw [he]; exact Tryz.underlying46
  obtain ⟨ao, cap, hv, hr⟩ := h.1
  injection hv with e1 e2 e3
  subst e1 e3
  have hic : i ≤ c := by
    rcases hr with hr | ⟨b, o, -, -, hle, -⟩
    · omega
    · omega
  have hrun := fun w => run_slice_h (P := Tryz.prog) (w := w) 46 a l.length c hu .i64 (i : Int) (by omega) (by omega)
  rcases hr with hr | ⟨b, o, rfl, -, hle, -⟩
  · refine ⟨if c = 0 then a else a.map (·.add (0 * 5)), c, fun w => ?_, ?_⟩
    · rw [hrun w, he, Tryz.sizeOf50 w]
      simp [Result.andThen, sliced]
    · intro W' hW
      have hi0 : i = 0 := by omega
      subst hi0
      exact ⟨⟨_, _, rfl, .inl (by simp)⟩, fun y hy => by simp at hy⟩
  · refine ⟨some ⟨b, o, none⟩, c, fun w => ?_, fun W' hW => lts_take hW i hi⟩
    rw [hrun w, he, Tryz.sizeOf50 w]
    simp [Result.andThen, sliced, Addr.add]
set_option maxRecDepth 100000 in
set_option maxHeartbeats 16000000 in
theorem mailCopies_any (v rv : Value) (W : World) (hv : ∃ m : Ml, MlIn W v m) (hrv : ∃ k : RqP, rv = .agg (rqT.enc k).toArray ∧ RqIn W k.1 k.2) :
    Calls Tryz.prog 8 #[v, rv] W fun e w' => e = .returned (.bool true) ∧ Below W.heap.size W w' := by
  obtain ⟨m, hin⟩ := hv
  obtain ⟨⟨q, y⟩, rfl, hq⟩ := hrv
  obtain ⟨ab_, cb_, nb_, ah_, ch_, as_, cs_, rfl⟩ := hin.out_
  have hq0 : Hid (∀ w', Below W.heap.size W w' → RqIn w' q y) := Lib.hid (fun w' h => hq.below h)
  have hin0 : Hid (∀ w', Below W.heap.size W w' → MlIn w' (.agg #[.slice ab_ nb_ cb_, .int .u64 m.nv, .slice ah_ m.homes.length ch_, .slice as_ m.seats.length cs_, .int .u64 m.ns, .int .u64 m.sweeps]) m) := Lib.hid (fun w' h => hin.below h)
  have hz1 := ((Zoo.nil W).newBox [.slice ab_ nb_ cb_, .int .u64 m.nv, .slice ah_ m.homes.length ch_, .slice as_ m.seats.length cs_, .int .u64 m.ns, .int .u64 m.sweeps].toArray 27).newBox (rqCells q y).toArray 41
  have hlt1 : W.heap.size < (W.alloc (.cells [.slice ab_ nb_ cb_, .int .u64 m.nv, .slice ah_ m.homes.length ch_, .slice as_ m.seats.length cs_, .int .u64 m.ns, .int .u64 m.sweeps].toArray 27)).heap.size := by simp
  have hlt2 : (W.alloc (.cells [.slice ab_ nb_ cb_, .int .u64 m.nv, .slice ah_ m.homes.length ch_, .slice as_ m.seats.length cs_, .int .u64 m.ns, .int .u64 m.sweeps].toArray 27)).heap.size < ((W.alloc (.cells [.slice ab_ nb_ cb_, .int .u64 m.nv, .slice ah_ m.homes.length ch_, .slice as_ m.seats.length cs_, .int .u64 m.ns, .int .u64 m.sweeps].toArray 27)).alloc (.cells (rqCells q y).toArray 41)).heap.size := by simp
  have hst0 := hin.stay
  have hb0 : Below W.heap.size W ((W.alloc (.cells [.slice ab_ nb_ cb_, .int .u64 m.nv, .slice ah_ m.homes.length ch_, .slice as_ m.seats.length cs_, .int .u64 m.ns, .int .u64 m.sweeps].toArray 27)).alloc (.cells (rqCells q y).toArray 41)) := ((Below.refl _ W).alloc (Nat.le_refl _) _).alloc (by simp) _
  generalize hMB : W.heap.size = MB at hz1 hst0 hlt1
  generalize hRB : (W.alloc (.cells [.slice ab_ nb_ cb_, .int .u64 m.nv, .slice ah_ m.homes.length ch_, .slice as_ m.seats.length cs_, .int .u64 m.ns, .int .u64 m.sweeps].toArray 27)).heap.size = RB at hz1 hst0 hlt1 hlt2
  generalize hWa : ((W.alloc (.cells [.slice ab_ nb_ cb_, .int .u64 m.nv, .slice ah_ m.homes.length ch_, .slice as_ m.seats.length cs_, .int .u64 m.ns, .int .u64 m.sweeps].toArray 27)).alloc (.cells (rqCells q y).toArray 41)) = Wa at hz1 hb0 hlt2
  have hst1 : Hid (Stay (okL [MB, RB]) Wa fun x => MlIn x (.agg #[.slice ab_ nb_ cb_, .int .u64 m.nv, .slice ah_ m.homes.length ch_, .slice as_ m.seats.length cs_, .int .u64 m.ns, .int .u64 m.sweeps]) m) := Lib.hid ((hst0.weak (fun k hk _ b hb => by
    rcases List.mem_cons.1 hb with rfl | hb
    · omega
    · rw [List.mem_singleton.1 hb]; omega)).below hb0)
  replace hz1 := Lib.hid hz1
  replace hlt1 := Lib.hid hlt1
  replace hlt2 := Lib.hid hlt2
  clear hin hq hst0 hb0
  show Calls Tryz.prog 8 #[.agg #[.slice ab_ nb_ cb_, .int .u64 m.nv, .slice ah_ m.homes.length ch_, .slice as_ m.seats.length cs_, .int .u64 m.ns, .int .u64 m.sweeps], .agg (rqCells q y).toArray] W _
  go_enter Tryz.func8, Tryz.ntmps8
  go_upto_region 1 with fail
  clear hWa hRB
  replace hMB := Lib.hid hMB
  go_wp2_with fail
  refine (alive_any _).mono ?_
  rintro e w1 ⟨rfl, hb1⟩
  dsimp only
  have hz2 := Lib.hid (hz1.out.below hb1.out)
  have hst2 := Lib.hid (hst1.out.below hb1.out)
  have hlt3 := Lib.hid (Nat.lt_of_lt_of_le hlt2.out hb1.out.size)
  obtain ⟨hbM, -⟩ := hz2.out.box (B := MB) (C := [.slice ab_ nb_ cb_, .int .u64 m.nv, .slice ah_ m.homes.length ch_, .slice as_ m.seats.length cs_, .int .u64 m.ns, .int .u64 m.sweeps].toArray) (t := 27) 1 rfl
  have x0 : w1.cell? ⟨MB, 0, none⟩ = some (.slice ab_ nb_ cb_) := box_cell hbM 0
  have x1 : w1.cell? ⟨MB, 1, none⟩ = some (.int .u64 m.nv) := box_cell hbM 1
  have x2 : w1.cell? ⟨MB, 2, none⟩ = some (.slice ah_ m.homes.length ch_) := box_cell hbM 2
  have x3 : w1.cell? ⟨MB, 3, none⟩ = some (.slice as_ m.seats.length cs_) := box_cell hbM 3
  have x4 : w1.cell? ⟨MB, 4, none⟩ = some (.int .u64 m.ns) := box_cell hbM 4
  have x5 : w1.cell? ⟨MB, 5, none⟩ = some (.int .u64 m.sweeps) := box_cell hbM 5
  obtain ⟨hbR, -⟩ := hz2.out.box (B := RB) (C := (rqCells q y).toArray) (t := 41) 0 rfl
  have hld := Lib.hid (fun j v (hj : (rqCells q y)[j]? = some v) => (show w1.cell? ⟨RB, 0 + j, none⟩ = some v by rw [Nat.zero_add, box_cell hbR j, List.getElem?_toArray]; exact hj))
  clear hbM hbR hz1 hst1 hlt2 hb1
  go_wp2_with (first | refine wpList_load_cells_w (by rfl) 41 (.tmp 3) rfl RB 0 (rqCells q y) (by rfl) Tryz.isAgg41 Tryz.sizeOf41 hld.out ?_ | refine wpList_rq1 (q := q) (y := y) (by rfl) (.tmp 21) rfl (by rfl) ?_)
  have hba := (Below.refl w1.heap.size w1).alloc (Nat.le_refl _) (.cells (rqCells q y).toArray 41)
  have hnw := heap_alloc_new w1 (.cells (rqCells q y).toArray 41)
  have hnl : w1.heap.size < (w1.alloc (.cells (rqCells q y).toArray 41)).heap.size := by simp
  have hz4 := Lib.hid (hz2.out.below hba)
  have hst4 := Lib.hid (hst2.out.below hba)
  generalize (w1.alloc (.cells (rqCells q y).toArray 41)) = w3 at hba hnw hnl hz4 hst4 ⊢
  have hlt5 := Lib.hid (Nat.lt_of_lt_of_le hlt3.out hba.size)
  generalize w1.heap.size = LB at hnw hnl ⊢
  have hrqs : RqsIn w3 (.slice (some ⟨LB, 0, none⟩) 1 1) [(q, y)] := ⟨⟨_, 1, rfl, .inr ⟨LB, 0, rfl, hnl, Nat.le_refl _, fun i v hv => by
    rw [Nat.zero_add, box_cell hnw i, List.getElem?_toArray, ← hv]
    show _ = (rqCells q y ++ [])[i]?
    rw [List.append_nil]⟩⟩, fun p hp => by rw [List.mem_singleton.1 hp]; exact hq0.out w3 hz4.out.bel⟩
  refine (light_any _ _ (hin0.out w3 hz4.out.bel) hrqs).mono ?_
  rintro e w4 ⟨rfl, hb4⟩
  dsimp only
  have hz5 := Lib.hid (hz4.out.below hb4.out)
  have hst5 := Lib.hid (hst4.out.below hb4.out)
  have hlt6 := Lib.hid (Nat.lt_of_lt_of_le hlt5.out hb4.out.size)
  clear x0 x1 x2 x3 x4 x5 hld hba hnw hnl hrqs hz4 hz2 hst4 hst2 hlt3 hlt5 hb4
  generalize hB2 : lightB _ _ = B2
  replace hB2 := Lib.hid hB2
  cases B2 with
  | false =>
    go_wp2_with fail
    refine (alive_any _).mono ?_
    rintro e wz ⟨rfl, hbz⟩
    dsimp only
    have hbF := Lib.hid (hz5.out.below hbz.out).bel
    clear hz5
    go_wp2_with fail
    go_ret
    first | exact ⟨rfl, hbF.out⟩ | (rw [← hMB.out]; exact ⟨rfl, hbF.out⟩)
  | true =>
    have hqo := Lib.hid (light_rq hB2.out q (List.mem_cons_self ..))
    have hask := Lib.hid (light_ask hB2.out)
    clear hB2 hin0
    go_upto_region 3 with fail
    obtain ⟨hbM, -⟩ := hz5.out.box (B := MB) (C := [.slice ab_ nb_ cb_, .int .u64 m.nv, .slice ah_ m.homes.length ch_, .slice as_ m.seats.length cs_, .int .u64 m.ns, .int .u64 m.sweeps].toArray) (t := 27) 1 rfl
    have x0 : w4.cell? ⟨MB, 0, none⟩ = some (.slice ab_ nb_ cb_) := box_cell hbM 0
    have x1 : w4.cell? ⟨MB, 1, none⟩ = some (.int .u64 m.nv) := box_cell hbM 1
    have x2 : w4.cell? ⟨MB, 2, none⟩ = some (.slice ah_ m.homes.length ch_) := box_cell hbM 2
    have x3 : w4.cell? ⟨MB, 3, none⟩ = some (.slice as_ m.seats.length cs_) := box_cell hbM 3
    have x4 : w4.cell? ⟨MB, 4, none⟩ = some (.int .u64 m.ns) := box_cell hbM 4
    have x5 : w4.cell? ⟨MB, 5, none⟩ = some (.int .u64 m.sweeps) := box_cell hbM 5
    clear hbM
    have hL0 : ∀ b ∈ [MB, RB], b < w4.heap.size := fun b hb => by
      have h1 := hlt1.out; have h2 := hlt6.out
      rcases List.mem_cons.1 hb with rfl | hb
      · omega
      · rw [List.mem_singleton.1 hb]; omega
    replace hL0 := Lib.hid hL0
    go_wp2_with fail
    refine (begun_any _ hst5.out.now hask.out).mono ?_
    intro e w5 hbr
    obtain ⟨C0, m0, rfl, hr0, hs0, hb5⟩ := hbr.rightL hst5.out hL0.out
    obtain ⟨ab0, cb0, nb0, ah0, ch0, as0, cs0, rfl⟩ := hs0.now.shape
    dsimp only
    have hz6 := Lib.hid (hz5.out.below hb5)
    replace hL0 := Lib.hid (ltL_below hL0.out hb5.size)
    replace hr0 := Lib.hid hr0
    obtain ⟨hbM, -⟩ := hz6.out.box (B := MB) (C := [.slice ab_ nb_ cb_, .int .u64 m.nv, .slice ah_ m.homes.length ch_, .slice as_ m.seats.length cs_, .int .u64 m.ns, .int .u64 m.sweeps].toArray) (t := 27) 1 rfl
    clear x0 x1 x2 x3 x4 x5 hbr hz5 hst5 hask
    have x0 : w5.cell? ⟨MB, 0, none⟩ = some (.slice ab_ nb_ cb_) := box_cell hbM 0
    have fx0 : w5.frozen? ⟨MB, 0, none⟩ = false := box_free hbM 0
    have x1 : w5.cell? ⟨MB, 1, none⟩ = some (.int .u64 m.nv) := box_cell hbM 1
    have fx1 : w5.frozen? ⟨MB, 1, none⟩ = false := box_free hbM 1
    have x2 : w5.cell? ⟨MB, 2, none⟩ = some (.slice ah_ m.homes.length ch_) := box_cell hbM 2
    have fx2 : w5.frozen? ⟨MB, 2, none⟩ = false := box_free hbM 2
    have x3 : w5.cell? ⟨MB, 3, none⟩ = some (.slice as_ m.seats.length cs_) := box_cell hbM 3
    have fx3 : w5.frozen? ⟨MB, 3, none⟩ = false := box_free hbM 3
    have x4 : w5.cell? ⟨MB, 4, none⟩ = some (.int .u64 m.ns) := box_cell hbM 4
    have fx4 : w5.frozen? ⟨MB, 4, none⟩ = false := box_free hbM 4
    have x5 : w5.cell? ⟨MB, 5, none⟩ = some (.int .u64 m.sweeps) := box_cell hbM 5
    have fx5 : w5.frozen? ⟨MB, 5, none⟩ = false := box_free hbM 5
    have hzF := hz6.out.fillBox (B := MB) (C := [.slice ab_ nb_ cb_, .int .u64 m.nv, .slice ah_ m.homes.length ch_, .slice as_ m.seats.length cs_, .int .u64 m.ns, .int .u64 m.sweeps]) (t := 27) 1 rfl [.slice ab0 nb0 cb0, .int .u64 m0.nv, .slice ah0 m0.homes.length ch0, .slice as0 m0.seats.length cs0, .int .u64 m0.ns, .int .u64 m0.sweeps] rfl
    have hsF := hs0.setL (B := MB) (.head _) [.slice ab0 nb0 cb0, .int .u64 m0.nv, .slice ah0 m0.homes.length ch0, .slice as0 m0.seats.length cs0, .int .u64 m0.ns, .int .u64 m0.sweeps]
    have hkF := KeptB.sets [.slice ab0 nb0 cb0, .int .u64 m0.nv, .slice ah0 m0.homes.length ch0, .slice as0 m0.seats.length cs0, .int .u64 m0.ns, .int .u64 m0.sweeps] 0 (KeptB.refl w5 MB)
    have hLF : Hid (∀ b ∈ [MB, RB], b < (w5.setCells MB 0 [.slice ab0 nb0 cb0, .int .u64 m0.nv, .slice ah0 m0.homes.length ch0, .slice as0 m0.seats.length cs0, .int .u64 m0.ns, .int .u64 m0.sweeps]).heap.size) := Lib.hid (fun b hb => Nat.lt_of_lt_of_eq (hL0.out b hb) hkF.size.symm)
    clear hbM hz6 hs0 hb5 hkF hL0
    go_upto_region 4 with fail
    change Code.wp _ _ _ _ (w5.setCells MB 0 [.slice ab0 nb0 cb0, .int .u64 m0.nv, .slice ah0 m0.homes.length ch0, .slice as0 m0.seats.length cs0, .int .u64 m0.ns, .int .u64 m0.sweeps])
    clear x0 x1 x2 x3 x4 x5 fx0 fx1 fx2 fx3 fx4 fx5
    generalize w5.setCells MB 0 [.slice ab0 nb0 cb0, .int .u64 m0.nv, .slice ah0 m0.homes.length ch0, .slice as0 m0.seats.length cs0, .int .u64 m0.ns, .int .u64 m0.sweeps] = w6 at hzF hsF hLF ⊢
    obtain ⟨hbR, -⟩ := hzF.box (B := RB) (C := (rqCells q y).toArray) (t := 41) 0 rfl
    have r0 : w6.cell? ⟨RB, 0, none⟩ = some (.int .i64 q.op) := box_cell hbR 0
    have fr0 : w6.frozen? ⟨RB, 0, none⟩ = false := box_free hbR 0
    clear hbR
    have hz7 := hzF.setBox (B := RB) (C := rqCells q y) (t := 41) 0 rfl 0 (.int .i64 9)
    have hs7 := hsF.setL (B := RB) (.tail _ (.head _)) [.int .i64 9]
    have hk7 := KeptB.set (KeptB.refl w6 RB) 0 (.int .i64 9)
    have hL7 : Hid (∀ b ∈ [MB, RB], b < (w6.setCell ⟨RB, 0, none⟩ (.int .i64 9)).heap.size) := Lib.hid (fun b hb => Nat.lt_of_lt_of_eq (hLF.out b hb) hk7.size.symm)
    simp only [World.setCells] at hs7
    replace hz7 : Zoo W (w6.setCell ⟨RB, 0, none⟩ (.int .i64 9)) [boxT RB (rqCells (opC q) y).toArray 41, boxT MB [.slice ab0 nb0 cb0, .int .u64 m0.nv, .slice ah0 m0.homes.length ch0, .slice as0 m0.seats.length cs0, .int .u64 m0.ns, .int .u64 m0.sweeps].toArray 27] := hz7
    clear hzF hsF hLF hk7
    go_upto_region 5 with fail
    generalize w6.setCell ⟨RB, 0, none⟩ (.int .i64 9) = w7 at hz7 hs7 hL7 ⊢
    clear r0 fr0
    replace hz7 := Lib.hid hz7
    replace hs7 := Lib.hid hs7
    have hqo7 : Hid (RqOk (opC q)) := Lib.hid ⟨⟨hqo.out.sz.fl, hqo.out.sz.sz, hqo.out.sz.ul⟩, hqo.out.box⟩
    obtain ⟨hbM, -⟩ := hz7.out.box (B := MB) (C := [.slice ab0 nb0 cb0, .int .u64 m0.nv, .slice ah0 m0.homes.length ch0, .slice as0 m0.seats.length cs0, .int .u64 m0.ns, .int .u64 m0.sweeps].toArray) (t := 27) 1 rfl
    obtain ⟨hbR, -⟩ := hz7.out.box (B := RB) (C := (rqCells (opC q) y).toArray) (t := 41) 0 rfl
    have x0 : w7.cell? ⟨MB, 0, none⟩ = some (.slice ab0 nb0 cb0) := box_cell hbM 0
    have x1 : w7.cell? ⟨MB, 1, none⟩ = some (.int .u64 m0.nv) := box_cell hbM 1
    have x2 : w7.cell? ⟨MB, 2, none⟩ = some (.slice ah0 m0.homes.length ch0) := box_cell hbM 2
    have x3 : w7.cell? ⟨MB, 3, none⟩ = some (.slice as0 m0.seats.length cs0) := box_cell hbM 3
    have x4 : w7.cell? ⟨MB, 4, none⟩ = some (.int .u64 m0.ns) := box_cell hbM 4
    have x5 : w7.cell? ⟨MB, 5, none⟩ = some (.int .u64 m0.sweeps) := box_cell hbM 5
    have hld := Lib.hid (fun j v (hj : (rqCells (opC q) y)[j]? = some v) => (show w7.cell? ⟨RB, 0 + j, none⟩ = some v by rw [Nat.zero_add, box_cell hbR j, List.getElem?_toArray]; exact hj))
    clear hbM hbR hqo
    obtain ⟨⟨m1, o1⟩, hap⟩ : ∃ r, applyM m0 (opC q) = r := ⟨_, rfl⟩
    have hca := apply_any _ hs7.out.now hr0.out.ap (show RqIn w7 (opC q) y from hq0.out w7 hz7.out.bel) hqo7.out
    rw [hap] at hca
    replace hca := Lib.hid hca
    have hsize : ∀ (wz : World), (wz.alloc (.cells [.slice none 0 0].toArray 27)).heap.size = wz.heap.size + 1 := fun wz => by simp
    replace hap := Lib.hid hap
    clear hsize
    go_wp2_with (refine wpList_load_cells rfl 41 (.tmp 3) rfl RB 0 (rqCells (opC q) y) (by rfl) Tryz.isAgg41 Tryz.sizeOf41 hld.out ?_)
    refine hca.out.mono ?_
    rintro e w8 ⟨vD, oD, rfl, hvD, hoD, hb8⟩
    dsimp only
    obtain ⟨ab1, cb1, nb1, ah1, ch1, as1, cs1, rfl⟩ := hvD.out.now.out_
    obtain ⟨aU1, cU1, aM1, cM1, rfl⟩ := hoD.out.now.out_
    clear hca hld x0 x1 x2 x3 x4 x5
    go_upto_region 6 with fail
    have e1 : (w8.alloc (.cells [.slice ab1 nb1 cb1, .int .u64 m1.nv, .slice ah1 m1.homes.length ch1, .slice as1 m1.seats.length cs1, .int .u64 m1.ns, .int .u64 m1.sweeps].toArray 27)).heap.size = w8.heap.size + 1 := by simp
    have hz9 := ((hz7.out.below hb8.out).newBox [.slice ab1 nb1 cb1, .int .u64 m1.nv, .slice ah1 m1.homes.length ch1, .slice as1 m1.seats.length cs1, .int .u64 m1.ns, .int .u64 m1.sweeps].toArray 27).newBox [.int .i64 o1.code, .int .u64 o1.session, .int .u64 o1.validity, .slice aU1 o1.uids.length cU1, .slice aM1 o1.mods.length cM1].toArray 35
    rw [e1] at hz9
    have hbn : Below w8.heap.size w8 ((w8.alloc (.cells [.slice ab1 nb1 cb1, .int .u64 m1.nv, .slice ah1 m1.homes.length ch1, .slice as1 m1.seats.length cs1, .int .u64 m1.ns, .int .u64 m1.sweeps].toArray 27)).alloc (.cells [.int .i64 o1.code, .int .u64 o1.session, .int .u64 o1.validity, .slice aU1 o1.uids.length cU1, .slice aM1 o1.mods.length cM1].toArray 35)) := ((Below.refl _ _).alloc (Nat.le_refl _) _).alloc (by simp) _
    change Code.wp _ _ _ _ ((w8.alloc (.cells [.slice ab1 nb1 cb1, .int .u64 m1.nv, .slice ah1 m1.homes.length ch1, .slice as1 m1.seats.length cs1, .int .u64 m1.ns, .int .u64 m1.sweeps].toArray 27)).alloc (.cells [.int .i64 o1.code, .int .u64 o1.session, .int .u64 o1.validity, .slice aU1 o1.uids.length cU1, .slice aM1 o1.mods.length cM1].toArray 35))
    have hinD := Lib.hid (hvD.out.below hbn)
    have hocD := Lib.hid (hoD.out.below hbn)
    have hs9 := Lib.hid ((hs7.out.below hb8.out).below hbn)
    have hle7 : w7.heap.size ≤ w8.heap.size := hb8.out.size
    have hL9 := Lib.hid (ltL_below (ltL_below hL7.out hb8.out.size) hbn.size)
    clear hvD hoD e1 hb8 hz7 hs7
    have hTB : w8.heap.size + 1 < ((w8.alloc (.cells [.slice ab1 nb1 cb1, .int .u64 m1.nv, .slice ah1 m1.homes.length ch1, .slice as1 m1.seats.length cs1, .int .u64 m1.ns, .int .u64 m1.sweeps].toArray 27)).alloc (.cells [.int .i64 o1.code, .int .u64 o1.session, .int .u64 o1.validity, .slice aU1 o1.uids.length cU1, .slice aM1 o1.mods.length cM1].toArray 35)).heap.size := by simp
    generalize ((w8.alloc (.cells [.slice ab1 nb1 cb1, .int .u64 m1.nv, .slice ah1 m1.homes.length ch1, .slice as1 m1.seats.length cs1, .int .u64 m1.ns, .int .u64 m1.sweeps].toArray 27)).alloc (.cells [.int .i64 o1.code, .int .u64 o1.session, .int .u64 o1.validity, .slice aU1 o1.uids.length cU1, .slice aM1 o1.mods.length cM1].toArray 35)) = w9 at hz9 hinD hocD hs9 hL9 hTB ⊢
    replace hz9 := Lib.hid hz9
    clear hbn
    generalize w8.heap.size = TB at hz9 hle7 hTB ⊢
    replace hTB := Lib.hid hTB
    replace hle7 := Lib.hid hle7
    obtain ⟨hbO, -⟩ := hz9.out.box (B := TB + 1) (C := [.int .i64 o1.code, .int .u64 o1.session, .int .u64 o1.validity, .slice aU1 o1.uids.length cU1, .slice aM1 o1.mods.length cM1].toArray) (t := 35) 0 rfl
    have o0 : w9.cell? ⟨TB + 1, 0, none⟩ = some (.int .i64 o1.code) := box_cell hbO 0
    have o3 : w9.cell? ⟨TB + 1, 3, none⟩ = some (.slice aU1 o1.uids.length cU1) := box_cell hbO 3
    have o4 : w9.cell? ⟨TB + 1, 4, none⟩ = some (.slice aM1 o1.mods.length cM1) := box_cell hbO 4
    obtain ⟨hbT, -⟩ := hz9.out.box (B := TB) (C := [.slice ab1 nb1 cb1, .int .u64 m1.nv, .slice ah1 m1.homes.length ch1, .slice as1 m1.seats.length cs1, .int .u64 m1.ns, .int .u64 m1.sweeps].toArray) (t := 27) 1 rfl
    obtain ⟨hbM, -⟩ := hz9.out.box (B := MB) (C := [.slice ab0 nb0 cb0, .int .u64 m0.nv, .slice ah0 m0.homes.length ch0, .slice as0 m0.seats.length cs0, .int .u64 m0.ns, .int .u64 m0.sweeps].toArray) (t := 27) 3 rfl
    by_cases hcode : o1.code = 0
    · obtain ⟨f, a, b, hcp⟩ := copy_good (m := m0) (q := opC q) hr0.out rfl (by rw [hap.out]; exact hcode)
      rw [hap.out] at hcp
      have hgo : ((o1.code : Int) != 0) = false := by rw [hcode]; rfl
      have hr1 : Hid (RightP m1) := Lib.hid (by have := apply_right (opC q) hr0.out; rw [hap.out] at this; exact this)
      obtain ⟨hbR, -⟩ := hz9.out.box (B := RB) (C := (rqCells (opC q) y).toArray) (t := 41) 2 rfl
      have r6 : w9.cell? ⟨RB, 6, none⟩ = some (.string q.box) := box_cell hbR 6
      have x0 : w9.cell? ⟨MB, 0, none⟩ = some (.slice ab0 nb0 cb0) := box_cell hbM 0
      have x1 : w9.cell? ⟨MB, 1, none⟩ = some (.int .u64 m0.nv) := box_cell hbM 1
      have x2 : w9.cell? ⟨MB, 2, none⟩ = some (.slice ah0 m0.homes.length ch0) := box_cell hbM 2
      have x3 : w9.cell? ⟨MB, 3, none⟩ = some (.slice as0 m0.seats.length cs0) := box_cell hbM 3
      have x4 : w9.cell? ⟨MB, 4, none⟩ = some (.int .u64 m0.ns) := box_cell hbM 4
      have x5 : w9.cell? ⟨MB, 5, none⟩ = some (.int .u64 m0.sweeps) := box_cell hbM 5
      have hsrc := Lib.hid (show (findM m0 q.box).isSome = true by rw [show findM m0 q.box = some f from hcp.src]; rfl)
      have hwas := Lib.hid (show (findM m0 q.to_).isSome = true by rw [show findM m0 q.to_ = some a from hcp.was]; rfl)
      have hnow := Lib.hid (show (findM m1 q.to_).isSome = true by rw [show findM m1 q.to_ = some b from hcp.now]; rfl)
      have hsrc2 := Lib.hid (show (findM m0 q.box).getD bx0.b = f by rw [show findM m0 q.box = some f from hcp.src]; rfl)
      have hwas2 := Lib.hid (show (findM m0 q.to_).getD bx0.b = a by rw [show findM m0 q.to_ = some a from hcp.was]; rfl)
      have hnow2 := Lib.hid (show (findM m1 q.to_).getD bx0.b = b by rw [show findM m1 q.to_ = some b from hcp.now]; rfl)
      replace hcp := Lib.hid hcp
      have hzW := hz9
      clear hz9 hbO hbT hbM hbR hcode hap o3 o4 hL9
      go_wp2_with fail
      refine (findS_any _ m0 w9 hs9.out.now hr0.out.sized q.box).mono ?_
      rintro e w10 ⟨⟨nF, vF, xF, gF, rF, aF, cF⟩, rfl, hzF, hltF, hbF⟩
      unfold bxAgg bxCells BxV.v
      dsimp only
      rw [hsrc.out]
      replace hzF := Lib.hid (hzF.out.trans hsrc2.out)
      clear x0 x1 x2 x3 x4 x5 r6 hsrc hsrc2
      go_upto_region 9 with fail
      have hzn := (hzW.out.below hbF.out).newBox [.string nF, .int .u64 vF, .int .u64 xF, .int .u64 gF, .slice aF rF.length cF].toArray 48
      have hbn : Below w10.heap.size w10 (w10.alloc (.cells [.string nF, .int .u64 vF, .int .u64 xF, .int .u64 gF, .slice aF rF.length cF].toArray 48)) := (Below.refl _ _).alloc (Nat.le_refl _) _
      change Code.wp _ _ _ _ (w10.alloc (.cells [.string nF, .int .u64 vF, .int .u64 xF, .int .u64 gF, .slice aF rF.length cF].toArray 48))
      have hbb := hbF.out.trans (hbn.mono hbF.out.size)
      have hLF : LtsIn (w10.alloc (.cells [.string nF, .int .u64 vF, .int .u64 xF, .int .u64 gF, .slice aF rF.length cF].toArray 48)) (.slice aF rF.length cF) rF := (hltF.out.now).below hbn
      replace hs9 := Lib.hid (hs9.out.below hbb)
      replace hinD := Lib.hid (hinD.out.below hbb)
      replace hocD := Lib.hid (hocD.out.below hbb)
      clear hltF hbF hbn hbb hzW
      generalize (w10.alloc (.cells [.string nF, .int .u64 vF, .int .u64 xF, .int .u64 gF, .slice aF rF.length cF].toArray 48)) = w11 at hzn hLF hs9 hinD hocD ⊢
      generalize w10.heap.size = FF at hzn ⊢
      have hzW := Lib.hid hzn
      clear hzn
      replace hLF : Hid (∀ w', Below w11.heap.size w11 w' → LtsIn w' (.slice aF rF.length cF) rF) := Lib.hid (fun w' h => hLF.below h)
      clear o0 hgo
      obtain ⟨hbR, -⟩ := hzW.out.box (B := RB) (C := (rqCells (opC q) y).toArray) (t := 41) 3 rfl
      have r6 : w11.cell? ⟨RB, 7, none⟩ = some (.string q.to_) := box_cell hbR 7
      obtain ⟨hbM, -⟩ := hzW.out.box (B := MB) (C := [.slice ab0 nb0 cb0, .int .u64 m0.nv, .slice ah0 m0.homes.length ch0, .slice as0 m0.seats.length cs0, .int .u64 m0.ns, .int .u64 m0.sweeps].toArray) (t := 27) 4 rfl
      have x0 : w11.cell? ⟨MB, 0, none⟩ = some (.slice ab0 nb0 cb0) := box_cell hbM 0
      have x1 : w11.cell? ⟨MB, 1, none⟩ = some (.int .u64 m0.nv) := box_cell hbM 1
      have x2 : w11.cell? ⟨MB, 2, none⟩ = some (.slice ah0 m0.homes.length ch0) := box_cell hbM 2
      have x3 : w11.cell? ⟨MB, 3, none⟩ = some (.slice as0 m0.seats.length cs0) := box_cell hbM 3
      have x4 : w11.cell? ⟨MB, 4, none⟩ = some (.int .u64 m0.ns) := box_cell hbM 4
      have x5 : w11.cell? ⟨MB, 5, none⟩ = some (.int .u64 m0.sweeps) := box_cell hbM 5
      clear hbR hbM
      go_wp2_with fail
      refine (findS_any _ m0 w11 hs9.out.now hr0.out.sized q.to_).mono ?_
      rintro e w12 ⟨⟨nA, vA, xA, gA, rA, aA, cA⟩, rfl, hzA, hltA, hbA⟩
      unfold bxAgg bxCells BxV.v
      dsimp only
      rw [hwas.out]
      replace hzA := Lib.hid (hzA.out.trans hwas2.out)
      clear x0 x1 x2 x3 x4 x5 r6 hwas hwas2
      go_upto_region 10 with fail
      have hzn := (hzW.out.below hbA.out).newBox [.string nA, .int .u64 vA, .int .u64 xA, .int .u64 gA, .slice aA rA.length cA].toArray 48
      have hbn : Below w12.heap.size w12 (w12.alloc (.cells [.string nA, .int .u64 vA, .int .u64 xA, .int .u64 gA, .slice aA rA.length cA].toArray 48)) := (Below.refl _ _).alloc (Nat.le_refl _) _
      change Code.wp _ _ _ _ (w12.alloc (.cells [.string nA, .int .u64 vA, .int .u64 xA, .int .u64 gA, .slice aA rA.length cA].toArray 48))
      have hbb := hbA.out.trans (hbn.mono hbA.out.size)
      have hLA : LtsIn (w12.alloc (.cells [.string nA, .int .u64 vA, .int .u64 xA, .int .u64 gA, .slice aA rA.length cA].toArray 48)) (.slice aA rA.length cA) rA := (hltA.out.now).below hbn
      replace hinD := Lib.hid (hinD.out.below hbb)
      replace hocD := Lib.hid (hocD.out.below hbb)
      replace hLF := Lib.hid (fun w' (h : Below (w12.alloc (.cells [.string nA, .int .u64 vA, .int .u64 xA, .int .u64 gA, .slice aA rA.length cA].toArray 48)).heap.size (w12.alloc (.cells [.string nA, .int .u64 vA, .int .u64 xA, .int .u64 gA, .slice aA rA.length cA].toArray 48)) w') => hLF.out _ (hbb.trans (h.mono hbb.size)))
      clear hltA hbA hbn hbb hzW
      generalize (w12.alloc (.cells [.string nA, .int .u64 vA, .int .u64 xA, .int .u64 gA, .slice aA rA.length cA].toArray 48)) = w13 at hzn hLA hinD hocD hLF ⊢
      generalize w12.heap.size = FA at hzn ⊢
      have hzW := Lib.hid hzn
      clear hzn
      replace hLA : Hid (∀ w', Below w13.heap.size w13 w' → LtsIn w' (.slice aA rA.length cA) rA) := Lib.hid (fun w' h => hLA.below h)
      clear hs9
      obtain ⟨hbR, -⟩ := hzW.out.box (B := RB) (C := (rqCells (opC q) y).toArray) (t := 41) 4 rfl
      have r6 : w13.cell? ⟨RB, 7, none⟩ = some (.string q.to_) := box_cell hbR 7
      obtain ⟨hbT, -⟩ := hzW.out.box (B := TB) (C := [.slice ab1 nb1 cb1, .int .u64 m1.nv, .slice ah1 m1.homes.length ch1, .slice as1 m1.seats.length cs1, .int .u64 m1.ns, .int .u64 m1.sweeps].toArray) (t := 27) 3 rfl
      have x0 : w13.cell? ⟨TB, 0, none⟩ = some (.slice ab1 nb1 cb1) := box_cell hbT 0
      have x1 : w13.cell? ⟨TB, 1, none⟩ = some (.int .u64 m1.nv) := box_cell hbT 1
      have x2 : w13.cell? ⟨TB, 2, none⟩ = some (.slice ah1 m1.homes.length ch1) := box_cell hbT 2
      have x3 : w13.cell? ⟨TB, 3, none⟩ = some (.slice as1 m1.seats.length cs1) := box_cell hbT 3
      have x4 : w13.cell? ⟨TB, 4, none⟩ = some (.int .u64 m1.ns) := box_cell hbT 4
      have x5 : w13.cell? ⟨TB, 5, none⟩ = some (.int .u64 m1.sweeps) := box_cell hbT 5
      clear hbR hbT
      go_wp2_with fail
      refine (findS_any _ m1 w13 hinD.out.now hr1.out.sized q.to_).mono ?_
      rintro e w14 ⟨⟨nB, vB, xB, gB, rB, aB, cB⟩, rfl, hzB, hltB, hbB⟩
      unfold bxAgg bxCells BxV.v
      dsimp only
      rw [hnow.out]
      replace hzB := Lib.hid (hzB.out.trans hnow2.out)
      clear x0 x1 x2 x3 x4 x5 r6 hnow hnow2
      go_upto_region 11 with fail
      have hzn := (hzW.out.below hbB.out).newBox [.string nB, .int .u64 vB, .int .u64 xB, .int .u64 gB, .slice aB rB.length cB].toArray 48
      have hbn : Below w14.heap.size w14 (w14.alloc (.cells [.string nB, .int .u64 vB, .int .u64 xB, .int .u64 gB, .slice aB rB.length cB].toArray 48)) := (Below.refl _ _).alloc (Nat.le_refl _) _
      change Code.wp _ _ _ _ (w14.alloc (.cells [.string nB, .int .u64 vB, .int .u64 xB, .int .u64 gB, .slice aB rB.length cB].toArray 48))
      have hbb := hbB.out.trans (hbn.mono hbB.out.size)
      have hLB : LtsIn (w14.alloc (.cells [.string nB, .int .u64 vB, .int .u64 xB, .int .u64 gB, .slice aB rB.length cB].toArray 48)) (.slice aB rB.length cB) rB := (hltB.out.now).below hbn
      have hFB := Lib.hid (Nat.le_of_lt (show w14.heap.size < (w14.alloc (.cells [.string nB, .int .u64 vB, .int .u64 xB, .int .u64 gB, .slice aB rB.length cB].toArray 48)).heap.size by simp))
      have hLA' := Lib.hid (fun w' (h : Below w14.heap.size (w14.alloc (.cells [.string nB, .int .u64 vB, .int .u64 xB, .int .u64 gB, .slice aB rB.length cB].toArray 48)) w') => (hLA.out w14 hbB.out).below (hbn.trans h))
      have hLB' := Lib.hid (fun w' (h : Below w14.heap.size (w14.alloc (.cells [.string nB, .int .u64 vB, .int .u64 xB, .int .u64 gB, .slice aB rB.length cB].toArray 48)) w') => (hltB.out.now).below (hbn.trans h))
      replace hocD := Lib.hid (hocD.out.below hbb)
      replace hLF := Lib.hid (fun w' (h : Below (w14.alloc (.cells [.string nB, .int .u64 vB, .int .u64 xB, .int .u64 gB, .slice aB rB.length cB].toArray 48)).heap.size (w14.alloc (.cells [.string nB, .int .u64 vB, .int .u64 xB, .int .u64 gB, .slice aB rB.length cB].toArray 48)) w') => hLF.out _ (hbb.trans (h.mono hbb.size)))
      replace hLA := Lib.hid (fun w' (h : Below (w14.alloc (.cells [.string nB, .int .u64 vB, .int .u64 xB, .int .u64 gB, .slice aB rB.length cB].toArray 48)).heap.size (w14.alloc (.cells [.string nB, .int .u64 vB, .int .u64 xB, .int .u64 gB, .slice aB rB.length cB].toArray 48)) w') => hLA.out _ (hbb.trans (h.mono hbb.size)))
      clear hltB hbB hbn hbb hzW
      generalize (w14.alloc (.cells [.string nB, .int .u64 vB, .int .u64 xB, .int .u64 gB, .slice aB rB.length cB].toArray 48)) = w15 at hzn hFB hLA' hLB' hLB hocD hLF hLA ⊢
      generalize w14.heap.size = FB at hzn hFB hLA' hLB' ⊢
      have hzW := Lib.hid hzn
      clear hzn
      replace hLB : Hid (∀ w', Below w15.heap.size w15 w' → LtsIn w' (.slice aB rB.length cB) rB) := Lib.hid (fun w' h => hLB.below h)
      clear hinD
      have hbp := Lib.hid (hr0.out.boxes f hcp.out.memf)
      have hbpa := Lib.hid (hr0.out.boxes a hcp.out.mema)
      have hfl : Hid (rF.map LtV.x = f.letters) := Lib.hid (congrArg Bx.letters hzF.out)
      have hal : Hid (rA.map LtV.x = a.letters) := Lib.hid (congrArg Bx.letters hzA.out)
      have hbl : Hid (rB.map LtV.x = b.letters) := Lib.hid (congrArg Bx.letters hzB.out)
      have hxA : Hid (xA = a.next) := Lib.hid (congrArg Bx.next hzA.out)
      have hlF : rF.length ≤ 32 := by have h1 := hbp.out.len; rw [← hfl.out, List.length_map] at h1; exact h1
      have hlA : rA.length ≤ 32 := by have h1 := hbpa.out.len; rw [← hal.out, List.length_map] at h1; exact h1
      have hlA2 : Hid (rA.length = a.letters.length) := Lib.hid (by rw [← hal.out, List.length_map])
      have hlF2 : Hid (rF.length = f.letters.length) := Lib.hid (by rw [← hfl.out, List.length_map])
      have hlB : rB.length = rA.length + o1.uids.length := by have h1 := hcp.out.len; rw [← hbl.out, ← hal.out, List.length_map, List.length_map] at h1; exact h1
      have hlU : o1.uids.length ≤ 32 := by have h1 := hcp.out.ulen; have h2 := List.length_filter_le (meantB f.letters (opC q)) f.letters; have h3 := hbp.out.len; omega
      obtain ⟨aU, cU, aM, cM, hov, hou, hom⟩ := hocD.out.now
      injection hov with hov
      have hov2 := congrArg Array.toList hov
      simp only [List.cons.injEq, Value.slice.injEq] at hov2
      obtain ⟨-, -, -, ⟨rfl, -, rfl⟩, ⟨rfl, -, rfl⟩, -⟩ := hov2
      rw [cells_u64] at hou
      have hU : Hid (∀ w', Below w15.heap.size w15 w' → Rd w' (.slice aU1 o1.uids.length cU1) o1.uids.length (o1.uids.map encU)) := Lib.hid (fun w' h => hou.below h)
      obtain ⟨hbO, -⟩ := hzW.out.box (B := TB + 1) (C := [.int .i64 o1.code, .int .u64 o1.session, .int .u64 o1.validity, .slice aU1 o1.uids.length cU1, .slice aM1 o1.mods.length cM1].toArray) (t := 35) 3 rfl
      obtain ⟨hbA, -⟩ := hzW.out.box (B := FA) (C := [.string nA, .int .u64 vA, .int .u64 xA, .int .u64 gA, .slice aA rA.length cA].toArray) (t := 48) 1 rfl
      obtain ⟨hbB, -⟩ := hzW.out.box (B := FB) (C := [.string nB, .int .u64 vB, .int .u64 xB, .int .u64 gB, .slice aB rB.length cB].toArray) (t := 48) 0 rfl
      have o3 : w15.cell? ⟨TB + 1, 3, none⟩ = some (.slice aU1 o1.uids.length cU1) := box_cell hbO 3
      have ya4 : w15.cell? ⟨FA, 4, none⟩ = some (.slice aA rA.length cA) := box_cell hbA 4
      have yb4 : w15.cell? ⟨FB, 4, none⟩ = some (.slice aB rB.length cB) := box_cell hbB 4
      rw [hlB] at yb4
      have hwr : IntKind.i64.wrap ((rA.length : Int) + (o1.uids.length : Int)) = ((rA.length + o1.uids.length : Nat) : Int) := by rw [IntWalk.i64_in _ (by omega)]; omega
      have hne : (((rA.length + o1.uids.length : Nat) : Int) != ((rA.length + o1.uids.length : Nat) : Int)) = false := by simp
      replace hlB := Lib.hid hlB
      clear hov hou hom hocD hbO hbA hbB hr0 hr1
      go_wp2_with fail
      clear ya4 yb4 o3 hwr hne
      go_loopw [13, 14] (fun v13 v14 wr => ∃ j kk : Nat, v13 = .int .i64 kk ∧ v14 = .int .i64 j ∧ j ≤ rF.length ∧ Hid (kk = rA.length + cntL (meantB f.letters (opC q)) f.letters j) ∧ Hid (Below w15.heap.size w15 wr)) (fun _ v14 _ => rF.length - (intOf v14).toNat)
      case atStart => exact ⟨0, rA.length, rfl, rfl, Nat.zero_le _, Lib.hid rfl, Lib.hid (Below.refl _ _)⟩
      case round =>
        obtain ⟨j, kk, rfl, rfl, hj, hkk, hbw⟩ := hrel
        obtain ⟨hbF, -⟩ := (hzW.out.below hbw.out).box (B := FF) (C := [.string nF, .int .u64 vF, .int .u64 xF, .int .u64 gF, .slice aF rF.length cF].toArray) (t := 48) 2 rfl
        have ya4 : wr.cell? ⟨FF, 4, none⟩ = some (.slice aF rF.length cF) := box_cell hbF 4
        by_cases hlt : j < rF.length
        · obtain ⟨xb, xo, xcap, hv, hcX⟩ := (hLF.out wr hbw.out).cells_at hlt
          injection hv with hv1 hv2 hv3
          subst hv1 hv3
          have hfX := (hLF.out wr hbw.out).2 _ (List.getElem_mem hlt)
          obtain ⟨x, hx⟩ : ∃ x, rF[j] = x := ⟨_, rfl⟩
          rw [hx] at hcX hfX
          have hxa : Hid (∃ h : j < f.letters.length, f.letters[j] = x.x) := Lib.hid ⟨by rw [← hfl.out, List.length_map]; exact hlt, by
            have h1 : (rF.map LtV.x)[j]? = some x.x := by rw [List.getElem?_map, List.getElem?_eq_getElem hlt, hx]; rfl
            rw [hfl.out] at h1
            exact (List.getElem?_eq_some_iff.1 h1).2⟩
          have hxm : Hid (x.x ∈ f.letters) := Lib.hid (by obtain ⟨h4, h5⟩ := hxa.out; rw [← h5]; exact List.getElem_mem h4)
          replace hx := Lib.hid hx
          obtain ⟨c0, c1, c2, c3, c4⟩ := hcX wr (Below.refl _ _)
          replace c1 : wr.cell? ⟨xb, xo + j * 5 + 1, none⟩ = some (.slice x.a x.x.flags.length x.c) := c1
          have hi0 : (0 : Int) ≤ (j : Int) := by omega
          have hi1 : (j : Int) < (rF.length : Int) := by omega
          clear hbF hcX
          go_upto_region 18 with fail
          have hzn := (Zoo.nil wr).newBox [.int .u64 x.x.uid, .slice x.a x.x.flags.length x.c, .int .u64 x.x.mod, .string x.x.hash, .int .u64 x.x.size].toArray 50
          have hbn : Below wr.heap.size wr (wr.alloc (.cells [.int .u64 x.x.uid, .slice x.a x.x.flags.length x.c, .int .u64 x.x.mod, .string x.x.hash, .int .u64 x.x.size].toArray 50)) := (Below.refl _ _).alloc (Nat.le_refl _) _
          change Code.wp _ _ _ _ (wr.alloc (.cells [.int .u64 x.x.uid, .slice x.a x.x.flags.length x.c, .int .u64 x.x.mod, .string x.x.hash, .int .u64 x.x.size].toArray 50))
          obtain ⟨hPX, -⟩ := hzn.box 0 rfl
          clear hzn ya4 c0 c1 c2 c3 c4
          generalize (wr.alloc (.cells [.int .u64 x.x.uid, .slice x.a x.x.flags.length x.c, .int .u64 x.x.mod, .string x.x.hash, .int .u64 x.x.size].toArray 50)) = wc at hbn hPX ⊢
          have hfX' := Lib.hid (fun w' (h : Below wc.heap.size wc w') => (hfX.below (hbn.trans (h.mono hbn.size))))
          have hbc := Lib.hid (hbw.out.trans (hbn.mono hbw.out.size))
          clear hbn hfX
          generalize wr.heap.size = PX at hPX ⊢
          have hzc := Lib.hid (hzW.out.below hbc.out)
          have hPX' := Lib.hid (fun w' (h : Below wc.heap.size wc w') => bel_heap0 h hPX)
          obtain ⟨hbF, -⟩ := hzc.out.box (B := FF) (C := [.string nF, .int .u64 vF, .int .u64 xF, .int .u64 gF, .slice (some ⟨xb, xo, none⟩) rF.length cF].toArray) (t := 48) 2 rfl
          obtain ⟨hbR, -⟩ := hzc.out.box (B := RB) (C := (rqCells (opC q) y).toArray) (t := 41) 5 rfl
          have a0 : wc.cell? ⟨FF, 0, none⟩ = some (.string nF) := box_cell hbF 0
          have a1 : wc.cell? ⟨FF, 1, none⟩ = some (.int .u64 vF) := box_cell hbF 1
          have a2 : wc.cell? ⟨FF, 2, none⟩ = some (.int .u64 xF) := box_cell hbF 2
          have a3 : wc.cell? ⟨FF, 3, none⟩ = some (.int .u64 gF) := box_cell hbF 3
          have a4 : wc.cell? ⟨FF, 4, none⟩ = some (.slice (some ⟨xb, xo, none⟩) rF.length cF) := box_cell hbF 4
          have p0 : wc.cell? ⟨PX, 0, none⟩ = some (.int .u64 x.x.uid) := box_cell hPX 0
          have p1 : wc.cell? ⟨PX, 1, none⟩ = some (.slice x.a x.x.flags.length x.c) := box_cell hPX 1
          have p2 : wc.cell? ⟨PX, 2, none⟩ = some (.int .u64 x.x.mod) := box_cell hPX 2
          have p3 : wc.cell? ⟨PX, 3, none⟩ = some (.string x.x.hash) := box_cell hPX 3
          have p4 : wc.cell? ⟨PX, 4, none⟩ = some (.int .u64 x.x.size) := box_cell hPX 4
          have r9 : wc.cell? ⟨RB, 9, none⟩ = some (.slice y.au q.uids.length y.cu) := box_cell hbR 9
          have hqc := hq0.out wc hzc.out.bel
          have hql : q.uids.length ≤ 1000000 := by have := hqo7.out.sz.ul; have h2 : (opC q).uids.length = q.uids.length := rfl; omega
          have hmc := Lib.hid (refMeant_any (W := wc) ⟨nF, vF, xF, gF, rF, some ⟨xb, xo, none⟩, cF⟩ x q.uids y.au y.cu (hLF.out wc hbc.out) hqc.1 (by show rF.length ≤ 1000000; omega) hql)
          have hMm : Hid (hasL q.uids (maxU (BxV.mk nF vF xF gF rF (some ⟨xb, xo, none⟩) cF).b.letters) x.x.uid = meantB f.letters (opC q) x.x) := Lib.hid (by
            show hasL q.uids (maxU (rF.map LtV.x)) x.x.uid = hasL q.uids (mostB f.letters) x.x.uid
            rw [hfl.out, maxU_up hbp.out.up])
          clear hbF hbR hPX hql hqc
          go_wp2_with fail
          refine hmc.out.mono ?_
          rintro e wm ⟨rfl, hbm⟩
          dsimp only
          rw [hMm.out]
          have hbM := Lib.hid (hbc.out.trans (hbm.out.mono hbc.out.size))
          clear a0 a1 a2 a3 a4 p0 p1 p2 p3 p4 r9 hmc hMm hzc
          obtain ⟨M, hM⟩ : ∃ M, meantB f.letters (opC q) x.x = M := ⟨_, rfl⟩
          rw [hM]
          replace hM := Lib.hid hM
          cases M with
          | false =>
            as_aux_lemma =>
              have hkk2 : Hid (kk = rA.length + cntL (meantB f.letters (opC q)) f.letters (j + 1)) := Lib.hid (by
                obtain ⟨h1, h2⟩ := hxa.out
                rw [cntL_no h1 (by rw [h2]; exact hM.out)]; exact hkk.out)
              clear hkk
              go_wp2_with fail
              go_roundw
              case rel => exact ⟨j + 1, kk, rfl, by go_num, by omega, hkk2, hbM⟩
              case measure => simp [intOf] <;> omega
          | true =>
            as_aux_lemma =>
              have hMt : ∃ h : j < f.letters.length, meantB f.letters (opC q) f.letters[j] = true := by
                obtain ⟨h1, h2⟩ := hxa.out
                exact ⟨h1, by rw [h2]; exact hM.out⟩
              obtain ⟨hj1, hj2⟩ := hMt
              have hat := hcp.out.at_ hj1 hj2
              have hkk2 : Hid (kk + 1 = rA.length + cntL (meantB f.letters (opC q)) f.letters (j + 1)) := Lib.hid (by
                rw [cntL_yes hj1 hj2, hkk.out]; omega)
              have hcU := cntL_lt hj1 hj2
              rw [← hcp.out.ulen] at hcU
              obtain ⟨c, hc⟩ : ∃ c, cntL (meantB f.letters (opC q)) f.letters j = c := ⟨_, rfl⟩
              rw [hc] at hat hcU
              have hkc : kk = rA.length + c := by rw [hkk.out, hc]
              obtain ⟨hat1, hat2⟩ := hat
              rw [← hlA2.out, ← hkc, ← hbl.out] at hat1
              have hkB : kk < rB.length := by rw [hlB.out]; omega
              rw [List.getElem?_map, List.getElem?_eq_getElem hkB, Option.map_some] at hat1
              replace hat1 := Option.some.inj hat1
              obtain ⟨z, hz⟩ : ∃ z, rB[kk] = z := ⟨_, rfl⟩
              rw [hz, hxa.out.2] at hat1
              obtain ⟨yb, yo, ycap, hv, hcY⟩ := (hLB.out wm hbM.out).cells_at hkB
              injection hv with hv1 hv2 hv3
              subst hv1 hv3
              have hfY := (hLB.out wm hbM.out).2 _ (List.getElem_mem hkB)
              rw [hz] at hcY hfY
              obtain ⟨U, hU0⟩ : ∃ U, a.next + c = U := ⟨_, rfl⟩
              have e0 : z.x.uid = U := by rw [hat1]; exact hU0
              have e1 : z.x.flags = x.x.flags := by rw [hat1]
              have e3 : z.x.hash = x.x.hash := by rw [hat1]
              have e4 : z.x.size = x.x.size := by rw [hat1]
              have hUx : xA ≤ U := by rw [hxA.out, ← hU0]; omega
              obtain ⟨d0, d1, d2, d3, d4⟩ := hcY wm (Below.refl _ _)
              replace d1 : wm.cell? ⟨yb, yo + kk * 5 + 1, none⟩ = some (.slice z.a z.x.flags.length z.c) := d1
              rw [e1] at d1
              rw [e1] at hfY
              have hzv : z.v = .slice z.a x.x.flags.length z.c := by unfold LtV.v; rw [e1]
              rw [hzv] at hfY
              clear hzv
              obtain ⟨ub, uo, hao, hubl, huc⟩ := (hU.out wm hbM.out).at_pos (by omega)
              subst hao
              have hu := num_cell huc hcU
              have hat2' : o1.uids[c] = U := by rw [List.getElem?_eq_getElem hcU] at hat2; rw [Option.some.inj hat2, hU0]
              rw [hat2'] at hu
              obtain ⟨hbB, -⟩ := (hzW.out.below hbM.out).box (B := FB) (C := [.string nB, .int .u64 vB, .int .u64 xB, .int .u64 gB, .slice (some ⟨yb, yo, none⟩) rB.length cB].toArray) (t := 48) 0 rfl
              obtain ⟨hbA, -⟩ := (hzW.out.below hbM.out).box (B := FA) (C := [.string nA, .int .u64 vA, .int .u64 xA, .int .u64 gA, .slice aA rA.length cA].toArray) (t := 48) 1 rfl
              obtain ⟨hbO, -⟩ := (hzW.out.below hbM.out).box (B := TB + 1) (C := [.int .i64 o1.code, .int .u64 o1.session, .int .u64 o1.validity, .slice (some ⟨ub, uo, none⟩) o1.uids.length cU1, .slice aM1 o1.mods.length cM1].toArray) (t := 35) 3 rfl
              have o3 : wm.cell? ⟨TB + 1, 3, none⟩ = some (.slice (some ⟨ub, uo, none⟩) o1.uids.length cU1) := box_cell hbO 3
              have ya4 : wm.cell? ⟨FA, 4, none⟩ = some (.slice aA rA.length cA) := box_cell hbA 4
              have yb4 : wm.cell? ⟨FB, 4, none⟩ = some (.slice (some ⟨yb, yo, none⟩) rB.length cB) := box_cell hbB 4
              have hg1 : ¬ (rB.length : Int) ≤ (kk : Int) := by omega
              have hg2 : decide ((rB.length : Int) ≤ (kk : Int)) = false := decide_eq_false hg1
              have hw1 : IntKind.i64.wrap ((kk : Int) - (rA.length : Int)) = (c : Int) := by rw [IntWalk.i64_in _ (by omega)]; omega
              have hg3 : ¬ (o1.uids.length : Int) ≤ (c : Int) := by omega
              have hg4 : decide ((o1.uids.length : Int) ≤ (c : Int)) = false := decide_eq_false hg3
              have hk0 : (0 : Int) ≤ (kk : Int) := by omega
              have hk1 : (kk : Int) < (rB.length : Int) := by omega
              have hk9 : kk < 100 := by have := hlB.out; omega
              have hc0 : (0 : Int) ≤ (c : Int) := by omega
              have hc1 : (c : Int) < (o1.uids.length : Int) := by omega
              have hu2 : Hid (∀ w', Below wm.heap.size wm w' → w'.cell? ⟨ub, uo + c, none⟩ = some (.int .u64 (U : Int))) := Lib.hid (fun w' h => (h.cell (p := ⟨ub, uo + c, none⟩) hubl).trans hu)
              have hfY' := Lib.hid (fun w' (h : Below wm.heap.size wm w') => (hfY.below h))
              have hh1 : (z.x.hash.toList != x.x.hash.toList) = false := by rw [e3]; simp
              have hh2 : (z.x.hash.toList == x.x.hash.toList) = true := by rw [e3]; simp
              have hh3 : ((z.x.size : Int) != (x.x.size : Int)) = false := by rw [e4]; simp
              have hh3' : ((z.x.size : Int) == (x.x.size : Int)) = true := by rw [e4]; simp
              have hh4 : ((z.x.uid : Int) != (U : Int)) = false := by rw [e0]; simp
              have hh4' : ((z.x.uid : Int) == (U : Int)) = true := by rw [e0]; simp
              have hh5 : ¬ (z.x.uid : Int) < (xA : Int) := by rw [e0]; omega
              have hh6 : decide ((z.x.uid : Int) < (xA : Int)) = false := decide_eq_false hh5
              clear hkk hat1 hat2 hat2' hcY hbA hbB hbO hu huc hfY e0 e1 e3 e4 hc hkc hj2 hU0
              go_upto_region 22 with fail
              as_aux_lemma =>
                have hzn := (Zoo.nil wm).newBox [.int .u64 z.x.uid, .slice z.a x.x.flags.length z.c, .int .u64 z.x.mod, .string z.x.hash, .int .u64 z.x.size].toArray 50
                have hbn : Below wm.heap.size wm (wm.alloc (.cells [.int .u64 z.x.uid, .slice z.a x.x.flags.length z.c, .int .u64 z.x.mod, .string z.x.hash, .int .u64 z.x.size].toArray 50)) := (Below.refl _ _).alloc (Nat.le_refl _) _
                change Code.wp _ _ _ _ (wm.alloc (.cells [.int .u64 z.x.uid, .slice z.a x.x.flags.length z.c, .int .u64 z.x.mod, .string z.x.hash, .int .u64 z.x.size].toArray 50))
                obtain ⟨hPY, -⟩ := hzn.box 0 rfl
                clear hzn ya4 yb4 o3 d0 d1 d2 d3 d4
                generalize (wm.alloc (.cells [.int .u64 z.x.uid, .slice z.a x.x.flags.length z.c, .int .u64 z.x.mod, .string z.x.hash, .int .u64 z.x.size].toArray 50)) = wd at hbn hPY ⊢
                have hbD := Lib.hid (hbM.out.trans (hbn.mono hbM.out.size))
                have hcmd := Lib.hid (hbm.out.trans (hbn.mono hbm.out.size))
                replace hbn := Lib.hid hbn
                generalize wm.heap.size = PY at hPY ⊢
                have hPY' := Lib.hid (fun w' (h : Below wd.heap.size wd w') => bel_heap0 h hPY)
                clear hPY
                have hS : Hid (∀ w', Below wd.heap.size wd w' → (w'.cell? ⟨PY, 0, none⟩ = some (.int .u64 z.x.uid) ∧ w'.cell? ⟨PY, 1, none⟩ = some (.slice z.a x.x.flags.length z.c) ∧ w'.cell? ⟨PY, 3, none⟩ = some (.string z.x.hash) ∧ w'.cell? ⟨PY, 4, none⟩ = some (.int .u64 z.x.size)) ∧ (w'.cell? ⟨PX, 1, none⟩ = some (.slice x.a x.x.flags.length x.c) ∧ w'.cell? ⟨PX, 3, none⟩ = some (.string x.x.hash) ∧ w'.cell? ⟨PX, 4, none⟩ = some (.int .u64 x.x.size)) ∧ (w'.cell? ⟨FA, 4, none⟩ = some (.slice aA rA.length cA) ∧ w'.cell? ⟨FA, 2, none⟩ = some (.int .u64 xA)) ∧ w'.cell? ⟨TB + 1, 3, none⟩ = some (.slice (some ⟨ub, uo, none⟩) o1.uids.length cU1) ∧ w'.cell? ⟨ub, uo + c, none⟩ = some (.int .u64 U)) := Lib.hid (fun w' h => by
                  have h2 := hbD.out.trans (h.mono hbD.out.size)
                  have h3 := hcmd.out.trans (h.mono hcmd.out.size)
                  obtain ⟨hbA, -⟩ := (hzW.out.below h2).box (B := FA) (C := [.string nA, .int .u64 vA, .int .u64 xA, .int .u64 gA, .slice aA rA.length cA].toArray) (t := 48) 1 rfl
                  obtain ⟨hbO, -⟩ := (hzW.out.below h2).box (B := TB + 1) (C := [.int .i64 o1.code, .int .u64 o1.session, .int .u64 o1.validity, .slice (some ⟨ub, uo, none⟩) o1.uids.length cU1, .slice aM1 o1.mods.length cM1].toArray) (t := 35) 3 rfl
                  exact ⟨⟨box_cell (hPY'.out w' h) 0, box_cell (hPY'.out w' h) 1, box_cell (hPY'.out w' h) 3, box_cell (hPY'.out w' h) 4⟩, ⟨box_cell (hPX'.out w' h3) 1, box_cell (hPX'.out w' h3) 3, box_cell (hPX'.out w' h3) 4⟩, ⟨box_cell hbA 4, box_cell hbA 2⟩, box_cell hbO 3, hu2.out w' (hbn.out.trans (h.mono hbn.out.size))⟩)
                have hxl := right_16 (hbp.out.lets x.x hxm.out).fl
                have hsm := Lib.hid (fun w' (h : Below wd.heap.size wd w') => same_any (.slice x.a x.x.flags.length x.c) (.slice z.a x.x.flags.length z.c) x.x.flags x.x.flags w' (hfX'.out w' (hcmd.out.trans (h.mono hcmd.out.size))) (hfY'.out w' (hbn.out.trans (h.mono hbn.out.size))) (by omega))
                rw [decide_eq_true (rfl : x.x.flags = x.x.flags)] at hsm
                have hbd : Below wd.heap.size wd wd.drew := (Below.refl _ _).drew
                replace hw1 := Lib.hid hw1
                clear hz hv2 hg1 hg2 hg3 hg4 hk0 hk1 hi0 hi1
                have hw1 := hw1.out
                refine wp_region_hd (fun w' => (w'.cell? ⟨PY, 0, none⟩ = some (.int .u64 z.x.uid) ∧ w'.cell? ⟨PY, 1, none⟩ = some (.slice z.a x.x.flags.length z.c) ∧ w'.cell? ⟨PY, 3, none⟩ = some (.string z.x.hash) ∧ w'.cell? ⟨PY, 4, none⟩ = some (.int .u64 z.x.size)) ∧ (w'.cell? ⟨PX, 1, none⟩ = some (.slice x.a x.x.flags.length x.c) ∧ w'.cell? ⟨PX, 3, none⟩ = some (.string x.x.hash) ∧ w'.cell? ⟨PX, 4, none⟩ = some (.int .u64 x.x.size)) ∧ (w'.cell? ⟨FA, 4, none⟩ = some (.slice aA rA.length cA) ∧ w'.cell? ⟨FA, 2, none⟩ = some (.int .u64 xA)) ∧ w'.cell? ⟨TB + 1, 3, none⟩ = some (.slice (some ⟨ub, uo, none⟩) o1.uids.length cU1) ∧ w'.cell? ⟨ub, uo + c, none⟩ = some (.int .u64 U)) 40 1 (by kernel_rfl) rfl ⟨by kernel_rfl, by kernel_rfl, by kernel_rfl, by decide⟩ (hS.out _ hbd) (fun hok hS0 => ?_)
                generalize wd.drew = Wd at *
                refine Hd.take (i := 0) (v := ?tv565) hok rfl (by kernel_rfl) (fun _ _ _ h => h) (Or.inl ⟨by rfl, ?ty565⟩) (by assumption) ?tr565
                case ty565 => (intro w hSw; (try dsimp only at hSw); go_simp; (try with_reducible rfl))
                try simp only [List.getElem_toArray, List.getElem_cons_succ, List.getElem_cons_zero, Act.put, List.setIfInBounds_toArray, List.set_cons_zero, List.set_cons_succ]
                refine Hd.take (i := 1) (v := ?tv566) hok rfl (by kernel_rfl) (fun _ _ _ h => h) (Or.inl ⟨by rfl, ?ty566⟩) (by assumption) ?tr566
                case ty566 => (intro w hSw; (try dsimp only at hSw); go_simp; (try with_reducible rfl))
                try simp only [List.getElem_toArray, List.getElem_cons_succ, List.getElem_cons_zero, Act.put, List.setIfInBounds_toArray, List.set_cons_zero, List.set_cons_succ]
                refine Hd.take (i := 2) (v := ?tv567) hok rfl (by kernel_rfl) (fun _ _ _ h => h) (Or.inl ⟨by rfl, ?ty567⟩) (by assumption) ?tr567
                case ty567 => (intro w hSw; (try dsimp only at hSw); go_simp; (try with_reducible rfl))
                try simp only [List.getElem_toArray, List.getElem_cons_succ, List.getElem_cons_zero, Act.put, List.setIfInBounds_toArray, List.set_cons_zero, List.set_cons_succ]
                refine Hd.take (i := 3) (v := ?tv568) hok rfl (by kernel_rfl) (fun _ _ _ h => h) (Or.inl ⟨by rfl, ?ty568⟩) (by assumption) ?tr568
                case ty568 => (intro w hSw; (try dsimp only at hSw); go_simp; (try with_reducible rfl))
                try simp only [List.getElem_toArray, List.getElem_cons_succ, List.getElem_cons_zero, Act.put, List.setIfInBounds_toArray, List.set_cons_zero, List.set_cons_succ]
                refine Hd.take (i := 4) (v := ?tv569) hok rfl (by kernel_rfl) (fun _ _ _ h => h) (Or.inl ⟨by rfl, ?ty569⟩) (by assumption) ?tr569
                case ty569 => (intro w hSw; (try dsimp only at hSw); go_simp; (try with_reducible rfl))
                try simp only [List.getElem_toArray, List.getElem_cons_succ, List.getElem_cons_zero, Act.put, List.setIfInBounds_toArray, List.set_cons_zero, List.set_cons_succ]
                refine Hd.take (i := 5) (v := ?tv570) hok rfl (by kernel_rfl) (fun _ _ _ h => h) (Or.inl ⟨by rfl, ?ty570⟩) (by assumption) ?tr570
                case ty570 => (intro w hSw; (try dsimp only at hSw); go_simp; (try with_reducible rfl))
                try simp only [List.getElem_toArray, List.getElem_cons_succ, List.getElem_cons_zero, Act.put, List.setIfInBounds_toArray, List.set_cons_zero, List.set_cons_succ]
                refine Hd.take (i := 6) (v := ?tv571) hok rfl (by kernel_rfl) (fun _ _ _ h => h) (Or.inl ⟨by rfl, ?ty571⟩) (by assumption) ?tr571
                case ty571 => (intro w hSw; (try dsimp only at hSw); go_simp; (try with_reducible rfl))
                try simp only [List.getElem_toArray, List.getElem_cons_succ, List.getElem_cons_zero, Act.put, List.setIfInBounds_toArray, List.set_cons_zero, List.set_cons_succ]
                refine Hd.take (i := 7) (v := ?tv572) hok rfl (by kernel_rfl) (fun _ _ _ h => h) (Or.inl ⟨by rfl, ?ty572⟩) (by assumption) ?tr572
                case ty572 => (intro w hSw; (try dsimp only at hSw); go_simp; (try with_reducible rfl))
                try simp only [List.getElem_toArray, List.getElem_cons_succ, List.getElem_cons_zero, Act.put, List.setIfInBounds_toArray, List.set_cons_zero, List.set_cons_succ]
                refine Hd.take (i := 8) (v := ?tv573) hok rfl (by kernel_rfl) (fun _ _ _ h => h) (Or.inl ⟨by rfl, ?ty573⟩) (by assumption) ?tr573
                case ty573 => (intro w hSw; (try dsimp only at hSw); go_simp; (try with_reducible rfl))
                try simp only [List.getElem_toArray, List.getElem_cons_succ, List.getElem_cons_zero, Act.put, List.setIfInBounds_toArray, List.set_cons_zero, List.set_cons_succ]
                refine Hd.take (i := 9) (v := ?tv574) hok rfl (by kernel_rfl) (fun _ _ _ h => h) (Or.inl ⟨by rfl, ?ty574⟩) (by assumption) ?tr574
                case ty574 => (intro w hSw; (try dsimp only at hSw); go_simp; (try with_reducible rfl))
                try simp only [List.getElem_toArray, List.getElem_cons_succ, List.getElem_cons_zero, Act.put, List.setIfInBounds_toArray, List.set_cons_zero, List.set_cons_succ]
                refine Hd.take (i := 10) (v := ?tv575) hok rfl (by kernel_rfl) (fun _ _ _ h => h) (Or.inl ⟨by rfl, ?ty575⟩) (by assumption) ?tr575
                case ty575 => (intro w hSw; (try dsimp only at hSw); go_simp; (try with_reducible rfl))
                try simp only [List.getElem_toArray, List.getElem_cons_succ, List.getElem_cons_zero, Act.put, List.setIfInBounds_toArray, List.set_cons_zero, List.set_cons_succ]
                refine Hd.take (i := 11) (v := ?tv576) hok rfl (by kernel_rfl) (fun _ _ _ h => h) (Or.inl ⟨by rfl, ?ty576⟩) (by assumption) ?tr576
                case ty576 => (intro w hSw; (try dsimp only at hSw); go_simp; (try with_reducible rfl))
                try simp only [List.getElem_toArray, List.getElem_cons_succ, List.getElem_cons_zero, Act.put, List.setIfInBounds_toArray, List.set_cons_zero, List.set_cons_succ]
                refine Hd.take (i := 12) (v := ?tv577) hok rfl (by kernel_rfl) (fun _ _ _ h => h) (Or.inl ⟨by rfl, ?ty577⟩) (by assumption) ?tr577
                case ty577 => (intro w hSw; (try dsimp only at hSw); go_simp; (try with_reducible rfl))
                try simp only [List.getElem_toArray, List.getElem_cons_succ, List.getElem_cons_zero, Act.put, List.setIfInBounds_toArray, List.set_cons_zero, List.set_cons_succ]
                refine Hd.take (i := 13) (v := ?tv578) hok rfl (by kernel_rfl) (fun _ _ _ h => h) (Or.inl ⟨by rfl, ?ty578⟩) (by assumption) ?tr578
                case ty578 => (intro w hSw; (try dsimp only at hSw); go_simp; (try with_reducible rfl))
                try simp only [List.getElem_toArray, List.getElem_cons_succ, List.getElem_cons_zero, Act.put, List.setIfInBounds_toArray, List.set_cons_zero, List.set_cons_succ]
                refine Hd.take (i := 14) (v := ?tv579) hok rfl (by kernel_rfl) (fun _ _ _ h => h) (Or.inl ⟨by rfl, ?ty579⟩) (by assumption) ?tr579
                case ty579 => (intro w hSw; (try dsimp only at hSw); go_simp; (try with_reducible rfl))
                try simp only [List.getElem_toArray, List.getElem_cons_succ, List.getElem_cons_zero, Act.put, List.setIfInBounds_toArray, List.set_cons_zero, List.set_cons_succ]
                refine Hd.take (i := 15) (v := ?tv580) hok rfl (by kernel_rfl) (fun _ _ _ h => h) (Or.inl ⟨by rfl, ?ty580⟩) (by assumption) ?tr580
                case ty580 => (intro w hSw; (try dsimp only at hSw); go_simp; (try with_reducible rfl))
                try simp only [List.getElem_toArray, List.getElem_cons_succ, List.getElem_cons_zero, Act.put, List.setIfInBounds_toArray, List.set_cons_zero, List.set_cons_succ]
                refine Hd.take (i := 16) (v := .slice z.a x.x.flags.length z.c) hok rfl (by kernel_rfl) (fun _ _ _ h => h) (Or.inl ⟨by rfl, ?ty⟩) (by assumption) ?tr
                case ty => (intro w hSw; (try dsimp only at hSw); go_simp; (try with_reducible rfl))
                try simp only [List.getElem_toArray, List.getElem_cons_succ, List.getElem_cons_zero, Act.put, List.setIfInBounds_toArray, List.set_cons_zero, List.set_cons_succ]
                replace hw1 := Lib.hid hw1
                replace hh1 := Lib.hid hh1
                replace hh2 := Lib.hid hh2
                replace hh3 := Lib.hid hh3
                replace hh3' := Lib.hid hh3'
                replace hh4 := Lib.hid hh4
                replace hh4' := Lib.hid hh4'
                replace hh5 := Lib.hid hh5
                replace hh6 := Lib.hid hh6
                replace hk9 := Lib.hid hk9
                replace hUx := Lib.hid hUx
                replace hc0 := Lib.hid hc0
                replace hc1 := Lib.hid hc1
                refine Hd.one (i := 17) rfl (by kernel_rfl) (fun K hK => ?_)
                rw [if_pos (by rfl)]
                go_simp
                refine (hsm.out _ hbd).mono ?_
                rintro e w17 ⟨rfl, hb17⟩
                dsimp only
                have hb18 := hbd.trans (hb17.mono hbd.size)
                have hSn := hS.out _ hb18
                refine hK _ _ hSn ?_
                clear hK K
                try simp only [List.getElem_toArray, List.getElem_cons_succ, List.getElem_cons_zero, Act.put, List.setIfInBounds_toArray, List.set_cons_zero, List.set_cons_succ]
                refine Hd.take (i := 18) (v := ?tv581) hok rfl (by kernel_rfl) (fun _ _ _ h => h) (Or.inl ⟨by rfl, ?ty581⟩) (by assumption) ?tr581
                case ty581 => (intro w hSw; (try dsimp only at hSw); go_simp; (try with_reducible rfl))
                try simp only [List.getElem_toArray, List.getElem_cons_succ, List.getElem_cons_zero, Act.put, List.setIfInBounds_toArray, List.set_cons_zero, List.set_cons_succ]
                refine Hd.take (i := 19) (v := ?tv582) hok rfl (by kernel_rfl) (fun _ _ _ h => h) (Or.inl ⟨by rfl, ?ty582⟩) (by assumption) ?tr582
                case ty582 => (intro w hSw; (try dsimp only at hSw); go_simp; (try with_reducible rfl))
                try simp only [List.getElem_toArray, List.getElem_cons_succ, List.getElem_cons_zero, Act.put, List.setIfInBounds_toArray, List.set_cons_zero, List.set_cons_succ]
                refine Hd.take (i := 20) (v := ?tv583) hok rfl (by kernel_rfl) (fun _ _ _ h => h) (Or.inl ⟨by rfl, ?ty583⟩) (by assumption) ?tr583
                case ty583 => (intro w hSw; (try dsimp only at hSw); go_simp; (try with_reducible rfl))
                try simp only [List.getElem_toArray, List.getElem_cons_succ, List.getElem_cons_zero, Act.put, List.setIfInBounds_toArray, List.set_cons_zero, List.set_cons_succ]
                refine Hd.take (i := 21) (v := ?tv584) hok rfl (by kernel_rfl) (fun _ _ _ h => h) (Or.inl ⟨by rfl, ?ty584⟩) (by assumption) ?tr584
                case ty584 => (intro w hSw; (try dsimp only at hSw); go_simp; (try with_reducible rfl))
                try simp only [List.getElem_toArray, List.getElem_cons_succ, List.getElem_cons_zero, Act.put, List.setIfInBounds_toArray, List.set_cons_zero, List.set_cons_succ]
                refine Hd.take (i := 22) (v := ?tv585) hok rfl (by kernel_rfl) (fun _ _ _ h => h) (Or.inl ⟨by rfl, ?ty585⟩) (by assumption) ?tr585
                case ty585 => (intro w hSw; (try dsimp only at hSw); go_simp; (try with_reducible rfl))
                try simp only [List.getElem_toArray, List.getElem_cons_succ, List.getElem_cons_zero, Act.put, List.setIfInBounds_toArray, List.set_cons_zero, List.set_cons_succ]
                refine Hd.take (i := 23) (v := ?tv586) hok rfl (by kernel_rfl) (fun _ _ _ h => h) (Or.inl ⟨by rfl, ?ty586⟩) (by assumption) ?tr586
                case ty586 => (intro w hSw; (try dsimp only at hSw); go_simp; (try with_reducible rfl))
                try simp only [List.getElem_toArray, List.getElem_cons_succ, List.getElem_cons_zero, Act.put, List.setIfInBounds_toArray, List.set_cons_zero, List.set_cons_succ]
                refine Hd.take (i := 24) (v := ?tv587) hok rfl (by kernel_rfl) (fun _ _ _ h => h) (Or.inl ⟨by rfl, ?ty587⟩) (by assumption) ?tr587
                case ty587 => (intro w hSw; (try dsimp only at hSw); go_simp; (try with_reducible rfl))
                try simp only [List.getElem_toArray, List.getElem_cons_succ, List.getElem_cons_zero, Act.put, List.setIfInBounds_toArray, List.set_cons_zero, List.set_cons_succ]
                refine Hd.take (i := 25) (v := ?tv588) hok rfl (by kernel_rfl) (fun _ _ _ h => h) (Or.inl ⟨by rfl, ?ty588⟩) (by assumption) ?tr588
                case ty588 => (intro w hSw; (try dsimp only at hSw); go_simp; (try with_reducible rfl))
                try simp only [List.getElem_toArray, List.getElem_cons_succ, List.getElem_cons_zero, Act.put, List.setIfInBounds_toArray, List.set_cons_zero, List.set_cons_succ]
                refine Hd.take (i := 26) (v := ?tv589) hok rfl (by kernel_rfl) (fun _ _ _ h => h) (Or.inl ⟨by rfl, ?ty589⟩) (by assumption) ?tr589
                case ty589 => (intro w hSw; (try dsimp only at hSw); go_simp; (try with_reducible rfl))
                try simp only [List.getElem_toArray, List.getElem_cons_succ, List.getElem_cons_zero, Act.put, List.setIfInBounds_toArray, List.set_cons_zero, List.set_cons_succ]
                refine Hd.take (i := 27) (v := ?tv590) hok rfl (by kernel_rfl) (fun _ _ _ h => h) (Or.inl ⟨by rfl, ?ty590⟩) (by assumption) ?tr590
                case ty590 => (intro w hSw; (try dsimp only at hSw); go_simp; (try with_reducible rfl))
                try simp only [List.getElem_toArray, List.getElem_cons_succ, List.getElem_cons_zero, Act.put, List.setIfInBounds_toArray, List.set_cons_zero, List.set_cons_succ]
                refine Hd.take (i := 28) (v := ?tv591) hok rfl (by kernel_rfl) (fun _ _ _ h => h) (Or.inl ⟨by rfl, ?ty591⟩) (by assumption) ?tr591
                case ty591 => (intro w hSw; (try dsimp only at hSw); go_simp; (try with_reducible rfl))
                try simp only [List.getElem_toArray, List.getElem_cons_succ, List.getElem_cons_zero, Act.put, List.setIfInBounds_toArray, List.set_cons_zero, List.set_cons_succ]
                replace hw1 := hw1.out
                refine Hd.take (i := 29) (v := ?tv592) hok rfl (by kernel_rfl) (fun _ _ _ h => h) (Or.inl ⟨by rfl, ?ty592⟩) (by assumption) ?tr592
                case ty592 => (intro w hSw; (try dsimp only at hSw); go_simp; (try with_reducible rfl))
                try simp only [List.getElem_toArray, List.getElem_cons_succ, List.getElem_cons_zero, Act.put, List.setIfInBounds_toArray, List.set_cons_zero, List.set_cons_succ]
                replace hw1 := Lib.hid hw1
                replace hc0 := hc0.out
                replace hc1 := hc1.out
                refine Hd.take (i := 30) (v := ?tv593) hok rfl (by kernel_rfl) (fun _ _ _ h => h) (Or.inl ⟨by rfl, ?ty593⟩) (by assumption) ?tr593
                case ty593 => (intro w hSw; (try dsimp only at hSw); go_simp; (try with_reducible rfl))
                try simp only [List.getElem_toArray, List.getElem_cons_succ, List.getElem_cons_zero, Act.put, List.setIfInBounds_toArray, List.set_cons_zero, List.set_cons_succ]
                replace hc0 := Lib.hid hc0
                replace hc1 := Lib.hid hc1
                refine Hd.take (i := 31) (v := ?tv594) hok rfl (by kernel_rfl) (fun _ _ _ h => h) (Or.inl ⟨by rfl, ?ty594⟩) (by assumption) ?tr594
                case ty594 => (intro w hSw; (try dsimp only at hSw); go_simp; (try with_reducible rfl))
                try simp only [List.getElem_toArray, List.getElem_cons_succ, List.getElem_cons_zero, Act.put, List.setIfInBounds_toArray, List.set_cons_zero, List.set_cons_succ]
                replace hh4 := hh4.out
                replace hh4' := hh4'.out
                refine Hd.take (i := 32) (v := ?tv595) hok rfl (by kernel_rfl) (fun _ _ _ h => h) (Or.inl ⟨by rfl, ?ty595⟩) (by assumption) ?tr595
                case ty595 => (intro w hSw; (try dsimp only at hSw); go_simp; (try with_reducible rfl))
                try simp only [List.getElem_toArray, List.getElem_cons_succ, List.getElem_cons_zero, Act.put, List.setIfInBounds_toArray, List.set_cons_zero, List.set_cons_succ]
                replace hh4 := Lib.hid hh4
                replace hh4' := Lib.hid hh4'
                refine Hd.take (i := 33) (v := ?tv596) hok rfl (by kernel_rfl) (fun _ _ _ h => h) (Or.inl ⟨by rfl, ?ty596⟩) (by assumption) ?tr596
                case ty596 => (intro w hSw; (try dsimp only at hSw); go_simp; (try with_reducible rfl))
                try simp only [List.getElem_toArray, List.getElem_cons_succ, List.getElem_cons_zero, Act.put, List.setIfInBounds_toArray, List.set_cons_zero, List.set_cons_succ]
                refine Hd.take (i := 34) (v := ?tv597) hok rfl (by kernel_rfl) (fun _ _ _ h => h) (Or.inl ⟨by rfl, ?ty597⟩) (by assumption) ?tr597
                case ty597 => (intro w hSw; (try dsimp only at hSw); go_simp; (try with_reducible rfl))
                try simp only [List.getElem_toArray, List.getElem_cons_succ, List.getElem_cons_zero, Act.put, List.setIfInBounds_toArray, List.set_cons_zero, List.set_cons_succ]
                refine Hd.take (i := 35) (v := ?tv598) hok rfl (by kernel_rfl) (fun _ _ _ h => h) (Or.inl ⟨by rfl, ?ty598⟩) (by assumption) ?tr598
                case ty598 => (intro w hSw; (try dsimp only at hSw); go_simp; (try with_reducible rfl))
                try simp only [List.getElem_toArray, List.getElem_cons_succ, List.getElem_cons_zero, Act.put, List.setIfInBounds_toArray, List.set_cons_zero, List.set_cons_succ]
                refine Hd.take (i := 36) (v := ?tv599) hok rfl (by kernel_rfl) (fun _ _ _ h => h) (Or.inl ⟨by rfl, ?ty599⟩) (by assumption) ?tr599
                case ty599 => (intro w hSw; (try dsimp only at hSw); go_simp; (try with_reducible rfl))
                try simp only [List.getElem_toArray, List.getElem_cons_succ, List.getElem_cons_zero, Act.put, List.setIfInBounds_toArray, List.set_cons_zero, List.set_cons_succ]
                refine Hd.take (i := 37) (v := ?tv600) hok rfl (by kernel_rfl) (fun _ _ _ h => h) (Or.inl ⟨by rfl, ?ty600⟩) (by assumption) ?tr600
                case ty600 => (intro w hSw; (try dsimp only at hSw); go_simp; (try with_reducible rfl))
                try simp only [List.getElem_toArray, List.getElem_cons_succ, List.getElem_cons_zero, Act.put, List.setIfInBounds_toArray, List.set_cons_zero, List.set_cons_succ]
                refine Hd.take (i := 38) (v := ?tv601) hok rfl (by kernel_rfl) (fun _ _ _ h => h) (Or.inl ⟨by rfl, ?ty601⟩) (by assumption) ?tr601
                case ty601 => (intro w hSw; (try dsimp only at hSw); go_simp; (try with_reducible rfl))
                try simp only [List.getElem_toArray, List.getElem_cons_succ, List.getElem_cons_zero, Act.put, List.setIfInBounds_toArray, List.set_cons_zero, List.set_cons_succ]
                replace hh5 := hh5.out
                replace hh6 := hh6.out
                refine Hd.take (i := 39) (v := ?tv602) hok rfl (by kernel_rfl) (fun _ _ _ h => h) (Or.inl ⟨by rfl, ?ty602⟩) (by assumption) ?tr602
                case ty602 => (intro w hSw; (try dsimp only at hSw); go_simp; (try with_reducible rfl))
                try simp only [List.getElem_toArray, List.getElem_cons_succ, List.getElem_cons_zero, Act.put, List.setIfInBounds_toArray, List.set_cons_zero, List.set_cons_succ]
                replace hh5 := Lib.hid hh5
                replace hh6 := Lib.hid hh6
                refine Hd.done (by kernel_rfl) ?_
                simp only [List.drop_succ_cons, List.drop_zero]
                have hbE := Lib.hid (hbD.out.trans (hb18.mono hbD.out.size))
                clear hok hS0 hS hSn hsm hb17 hb18 hbd
                replace hk9 := hk9.out
                go_wp2_with fail
                go_roundw
                case rel => exact ⟨j + 1, kk + 1, by go_num, by go_num, by omega, hkk2, hbE⟩
                case measure => simp [intOf] <;> omega
        · obtain rfl : j = rF.length := by omega
          have hkt : kk = rA.length + o1.uids.length := by rw [hkk.out, hlF2.out, cntL_all, ← hcp.out.ulen]
          subst hkt
          have hzr := hzW.out.below hbw.out
          obtain ⟨hbA, -⟩ := hzr.box (B := FA) (C := [.string nA, .int .u64 vA, .int .u64 xA, .int .u64 gA, .slice aA rA.length cA].toArray) (t := 48) 1 rfl
          obtain ⟨hbB, -⟩ := hzr.box (B := FB) (C := [.string nB, .int .u64 vB, .int .u64 xB, .int .u64 gB, .slice aB rB.length cB].toArray) (t := 48) 0 rfl
          have xa4 : wr.cell? ⟨FA, 4, none⟩ = some (.slice aA rA.length cA) := box_cell hbA 4
          have yb4 : wr.cell? ⟨FB, 4, none⟩ = some (.slice aB rB.length cB) := box_cell hbB 4
          have fb4 : wr.frozen? ⟨FB, 4, none⟩ = false := box_free hbB 4
          obtain ⟨aX, cX, hsl, hlX⟩ := slice_head (hLB.out wr hbw.out) rA.length (by have := hlB.out; omega)
          have hzs := hzr.setBox (B := FB) (C := [.string nB, .int .u64 vB, .int .u64 xB, .int .u64 gB, .slice aB rB.length cB]) (t := 48) 0 rfl 4 (.slice aX rA.length cX)
          have hbs : Below FB w15 (wr.setCell ⟨FB, 4, none⟩ (.slice aX rA.length cX)) := (hbw.out.mono hFB.out).setCell (Nat.le_refl _) _
          have hlA9 := hLA'.out _ hbs
          have hlX9 := hlX _ (hLB'.out _ hbs)
          replace hlX := Lib.hid hlX
          clear hbA hbB hbF hzr
          go_upto_region 26 with fail
          clear xa4 yb4 fb4 hsl ya4 hlX
          generalize (wr.setCell ⟨FB, 4, none⟩ (.slice aX rA.length cX)) = ws at hzs hbs hlA9 hlX9 ⊢
          obtain ⟨hbA, -⟩ := hzs.box (B := FA) (C := [.string nA, .int .u64 vA, .int .u64 xA, .int .u64 gA, .slice aA rA.length cA].toArray) (t := 48) 1 rfl
          obtain ⟨hbB, -⟩ := hzs.box (B := FB) (C := [.string nB, .int .u64 vB, .int .u64 xB, .int .u64 gB, .slice aX rA.length cX].toArray) (t := 48) 0 rfl
          obtain ⟨hbO, -⟩ := hzs.box (B := TB + 1) (C := [.int .i64 o1.code, .int .u64 o1.session, .int .u64 o1.validity, .slice aU1 o1.uids.length cU1, .slice aM1 o1.mods.length cM1].toArray) (t := 35) 3 rfl
          have o3 : ws.cell? ⟨TB + 1, 3, none⟩ = some (.slice aU1 o1.uids.length cU1) := box_cell hbO 3
          have ya4 : ws.cell? ⟨FA, 4, none⟩ = some (.slice aA rA.length cA) := box_cell hbA 4
          have yb4 : ws.cell? ⟨FB, 4, none⟩ = some (.slice aX rA.length cX) := box_cell hbB 4
          have hwr : IntKind.i64.wrap ((rA.length : Int) + (o1.uids.length : Int)) = ((rA.length + o1.uids.length : Nat) : Int) := by rw [IntWalk.i64_in _ (by omega)]; omega
          have hne : (((rA.length + o1.uids.length : Nat) : Int) == ((rA.length + o1.uids.length : Nat) : Int)) = true := by simp
          have hrX : (rB.take rA.length).length = rA.length := by rw [List.length_take]; have := hlB.out; omega
          have hsb := sameBox_yes (W := ws) ⟨⟨#[]⟩, 0, 0, 0, rA, aA, cA⟩ ⟨⟨#[]⟩, 0, 0, 0, rB.take rA.length, aX, cX⟩ hlA9 (by
            show LtsIn ws (.slice aX (rB.take rA.length).length cX) (rB.take rA.length)
            rw [hrX]; exact hlX9) (by
            show (⟨⟨#[]⟩, 0, 0, 0, rA.map LtV.x⟩ : Bx) = ⟨⟨#[]⟩, 0, 0, 0, (rB.take rA.length).map LtV.x⟩
            rw [List.map_take, hbl.out, hlA2.out, hcp.out.take_, hal.out]) (by show rA.length ≤ 1000000; omega) (fun y hy => by
            have hm : y.x ∈ a.letters := by rw [← hal.out]; exact List.mem_map_of_mem hy
            have := right_16 (hbpa.out.lets y.x hm).fl
            omega)
          replace hsb : Calls Tryz.prog 20 #[.agg #[.string ⟨#[]⟩, .int .u64 0, .int .u64 0, .int .u64 0, .slice aA rA.length cA], .agg #[.string ⟨#[]⟩, .int .u64 0, .int .u64 0, .int .u64 0, .slice aX rA.length cX]] ws (fun e w' => e = .returned (.bool true) ∧ Hid (Below ws.heap.size ws w')) := by
            have h := hsb
            unfold bxAgg bxCells BxV.v at h
            dsimp only at h
            rw [hrX] at h
            exact h
          replace hsb := Lib.hid hsb
          replace hzs := Lib.hid hzs
          clear hbA hbB hbO hlA9 hlX9 hrX
          go_wp2_with fail
          refine hsb.out.mono ?_
          rintro e wz ⟨rfl, hbz⟩
          dsimp only
          have hbF := Lib.hid (hzs.out.below hbz.out).bel
          clear hzs hsb o3 ya4 yb4 hwr hne
          go_wp2_with fail
          go_ret
          first | exact ⟨rfl, hbF.out⟩ | (rw [← hMB.out]; exact ⟨rfl, hbF.out⟩)
    · have hbad := copy_bad (m := m0) (q := opC q) rfl (by rw [hap.out]; exact hcode)
      rw [hap.out] at hbad
      obtain ⟨hb1, hb3⟩ := hbad
      dsimp only at hb1 hb3
      have hgo : ((o1.code : Int) != 0) = true := by rw [bne_iff_ne]; exact hcode
      rw [hb1] at o3
      have x0 : w9.cell? ⟨MB, 0, none⟩ = some (.slice ab0 nb0 cb0) := box_cell hbM 0
      have t0 : w9.cell? ⟨TB, 0, none⟩ = some (.slice ab1 nb1 cb1) := box_cell hbT 0
      clear hbO hbT hbM hcode hb1
      replace hb3 := Lib.hid hb3
      go_wp2_with fail
      obtain ⟨bs0, hm0, rfl, hi0⟩ := hs9.out.now.bxs
      obtain ⟨bs1, hm1, rfl, hi1⟩ := hinD.out.now.bxs
      obtain ⟨hz0, hz0'⟩ := hr0.out.bxsz hm0
      refine (sameM_yes bs0 bs1 ab0 ab1 0 0 0 cb0 cb1 hi0 hi1 (by rw [hm0, hm1]; exact hb3.out.symm) hz0 hz0').mono ?_
      rintro e wz ⟨rfl, hbz⟩
      dsimp only
      have hbF := Lib.hid (hz9.out.below hbz.out).bel
      clear hz9 hi0 hi1 hm0 hm1 hz0 hz0' x0 t0 o0 o3 o4 hbz hs9 hinD hocD
      go_wp2_with fail
      go_ret
      first | exact ⟨rfl, hbF.out⟩ | (rw [← hMB.out]; exact ⟨rfl, hbF.out⟩)
end Go.Proofs.YtdobbfjmlnlieaaGreat
