/- MailOnce: walked. (written by tools/gen_MoB.py) -/
import Derived.Test.YtdobbfjmlnlieaaGreatB32
import Derived.Test.YtdobbfjmlnlieaaGreatB31
import Derived.Test.YtdobbfjmlnlieaaGreatB33
namespace Go.Proofs.YtdobbfjmlnlieaaGreat
set_option linter.unusedSimpArgs false
open Go.RowKit
attribute [local go_sem ↓] Go.wp_at_zero Go.wp_at_succ

theorem RqsIn.cells_at3 {W : World} {v : Value} {l : List RqP} (h : RqsIn W v l) {j : Nat} (hj : j < l.length) : ∃ b bo cap, v = .slice (some ⟨b, bo, none⟩) l.length cap ∧ b < W.heap.size ∧
    ∀ W', Below W.heap.size W W' → ∀ r u, (rqCells l[j].1 l[j].2)[r]? = some u → W'.cell? ⟨b, bo + j * 17 + r, none⟩ = some u := by
  obtain ⟨b, bo, cap, hv, -, hbl, hc⟩ := rqT.rd_cells h.1 hj
  refine ⟨b, bo, cap, hv, hbl, fun W' hb r u hu => ?_⟩
  rw [Nat.add_assoc]
  exact (hb.cell (p := ⟨b, bo + (j * 17 + r), none⟩) hbl).trans (hc r u hu)
theorem BegunRet.rightL {W w' : World} {m : Ml} {v : Value} {e : Ending} {L : List Nat} (h : BegunRet W m v e w') (hs : Stay (okL L) W fun x => MlIn x v m) (hL : ∀ b ∈ L, b < W.heap.size) : ∃ (C : List Value) (m0 : Ml), e = .returned (.agg C.toArray) ∧ RightP m0 ∧ Stay (okL L) w' (fun x => MlIn x (.agg C.toArray) m0) ∧ Below W.heap.size W w' := by
  obtain ⟨v', rfl, h1, hb⟩ := h
  have key : ∃ m0, RightP m0 ∧ Stay (okL L) w' (fun x => MlIn x v' m0) := by
    rcases h1.out with ⟨hr, rfl⟩ | ⟨-, hn⟩
    · exact ⟨m, hr, hs.below hb.out⟩
    · exact ⟨newM, right_new, hn.okL hL⟩
  obtain ⟨m0, hr, hst⟩ := key
  obtain ⟨ab, cb, nb, ah, ch, as_, cs, rfl⟩ := hst.now.out_
  exact ⟨[.slice ab nb cb, .int .u64 m0.nv, .slice ah m0.homes.length ch, .slice as_ m0.seats.length cs, .int .u64 m0.ns, .int .u64 m0.sweeps], m0, rfl, hr, hst, hb.out⟩
theorem RightP.sameSz {m : Ml} (h : RightP m) : SameSz m where
  b := by have := h.lb; omega
  s := by have := h.ls; omega
  h := by have := h.homes5; omega
  l := fun b hb => by have := (h.boxes b hb).len; omega
  f := fun b hb x hx => by have := right_16 ((h.boxes b hb).lets x hx).fl; omega
/-- the state, the request and what came of it, each in its block -/
def On3 (W : World) (MB RB OB : Nat) (q : Rq) (y : RqV) (m : Ml) (O : List Value) (wx : World) : Prop := ∃ C : List Value, Zoo W wx [boxT OB O.toArray 35, boxT RB (rqCells q y).toArray 41, boxT MB C.toArray 27] ∧ Stay (okL [MB, OB]) wx (fun x => MlIn x (.agg C.toArray) m)
theorem mem_2 {L : List Nat} {a b : Nat} (ha : a ∈ L) (hb : b ∈ L) : ∀ x ∈ [a, b], x ∈ L := fun x hx => by
  rcases List.mem_cons.1 hx with rfl | hx
  · exact ha
  · rw [List.mem_singleton.1 hx]; exact hb
theorem open_uids {m : Ml} {q : Rq} (h1 : q.op = 1) : (applyM m q).2.uids = [] ∧ (applyM m q).2.mods = [] := by
  have key : ∀ {r : Int × Ml × Oc}, r.2.2.uids = [] → r.2.2.mods = [] → (finM r).2.uids = [] ∧ (finM r).2.mods = [] := fun {r} a b => by
    unfold finM
    split
    · exact ⟨a, b⟩
    · exact ⟨rfl, rfl⟩
  unfold applyM doesM
  split
  · exact ⟨rfl, rfl⟩
  rw [if_pos (.inl h1)]
  first | rw [if_pos h1] | skip
  refine key ?_ ?_
  · unfold openM
    repeat' split
    all_goals rfl
  · unfold openM
    repeat' split
    all_goals rfl
set_option maxRecDepth 100000 in
set_option maxHeartbeats 16000000 in
theorem mailOnce_any (v rv lv : Value) (W : World) (hv : ∃ m : Ml, MlIn W v m) (hrv : ∃ k : RqP, rv = .agg (rqT.enc k).toArray ∧ RqIn W k.1 k.2) (hl : ∃ l : List RqP, RqsIn W lv l) :
    Calls Tryz.prog 4 #[v, rv, lv] W fun e w' => e = .returned (.bool true) ∧ Below W.heap.size W w' := by
  obtain ⟨m, hin⟩ := hv
  obtain ⟨⟨q, y⟩, rfl, hq⟩ := hrv
  obtain ⟨l, hl⟩ := hl
  obtain ⟨ab_, cb_, nb_, ah_, ch_, as_, cs_, rfl⟩ := hin.out_
  obtain ⟨al, cl, hlv, -⟩ := hl.1
  subst hlv
  have hq0 : Hid (∀ w', Below W.heap.size W w' → RqIn w' q y) := Lib.hid (fun w' h => hq.below h)
  have hin0 : Hid (∀ w', Below W.heap.size W w' → MlIn w' (.agg #[.slice ab_ nb_ cb_, .int .u64 m.nv, .slice ah_ m.homes.length ch_, .slice as_ m.seats.length cs_, .int .u64 m.ns, .int .u64 m.sweeps]) m) := Lib.hid (fun w' h => hin.below h)
  have hl0 : Hid (RqsIn W (.slice al l.length cl) l) := Lib.hid hl
  have hll : Hid (∀ w', Below W.heap.size W w' → RqsIn w' (.slice al l.length cl) l) := Lib.hid (fun w' h => hl.below h)
  have hz1 := ((Zoo.nil W).newBox [.slice ab_ nb_ cb_, .int .u64 m.nv, .slice ah_ m.homes.length ch_, .slice as_ m.seats.length cs_, .int .u64 m.ns, .int .u64 m.sweeps].toArray 27).newBox (rqCells q y).toArray 41
  have hlt1 : W.heap.size < (W.alloc (.cells [.slice ab_ nb_ cb_, .int .u64 m.nv, .slice ah_ m.homes.length ch_, .slice as_ m.seats.length cs_, .int .u64 m.ns, .int .u64 m.sweeps].toArray 27)).heap.size := by simp
  have hlt2 : (W.alloc (.cells [.slice ab_ nb_ cb_, .int .u64 m.nv, .slice ah_ m.homes.length ch_, .slice as_ m.seats.length cs_, .int .u64 m.ns, .int .u64 m.sweeps].toArray 27)).heap.size < ((W.alloc (.cells [.slice ab_ nb_ cb_, .int .u64 m.nv, .slice ah_ m.homes.length ch_, .slice as_ m.seats.length cs_, .int .u64 m.ns, .int .u64 m.sweeps].toArray 27)).alloc (.cells (rqCells q y).toArray 41)).heap.size := by simp
  have hst1 := ((stay_new hin).below ((Below.refl _ _).alloc (Nat.le_refl _) (.cells [.slice ab_ nb_ cb_, .int .u64 m.nv, .slice ah_ m.homes.length ch_, .slice as_ m.seats.length cs_, .int .u64 m.ns, .int .u64 m.sweeps].toArray 27))).below ((Below.refl _ _).alloc (Nat.le_refl _) (.cells (rqCells q y).toArray 41))
  generalize hMB : W.heap.size = MB at hz1 hst1 hlt1
  generalize hRB : (W.alloc (.cells [.slice ab_ nb_ cb_, .int .u64 m.nv, .slice ah_ m.homes.length ch_, .slice as_ m.seats.length cs_, .int .u64 m.ns, .int .u64 m.sweeps].toArray 27)).heap.size = RB at hz1 hst1 hlt1 hlt2
  generalize hWa : ((W.alloc (.cells [.slice ab_ nb_ cb_, .int .u64 m.nv, .slice ah_ m.homes.length ch_, .slice as_ m.seats.length cs_, .int .u64 m.ns, .int .u64 m.sweeps].toArray 27)).alloc (.cells (rqCells q y).toArray 41)) = Wa at hz1 hst1 hlt2
  replace hz1 := Lib.hid hz1
  replace hst1 := Lib.hid hst1
  replace hlt1 := Lib.hid hlt1
  replace hlt2 := Lib.hid hlt2
  clear hin hl hq
  show Calls Tryz.prog 4 #[.agg #[.slice ab_ nb_ cb_, .int .u64 m.nv, .slice ah_ m.homes.length ch_, .slice as_ m.seats.length cs_, .int .u64 m.ns, .int .u64 m.sweeps], .agg (rqCells q y).toArray, .slice al l.length cl] W _
  go_enter Tryz.func4, Tryz.ntmps4
  go_upto_region 1 with fail
  clear hWa hRB
  replace hMB := Lib.hid hMB
  go_wp2_with fail
  refine (alive_any _).mono ?_
  rintro e w1 ⟨rfl, hb1⟩
  dsimp only
  have hz2 := Lib.hid (hz1.out.below hb1.out)
  have hst2 := Lib.hid (hst1.out.below hb1.out)
  have hlt3 := Lib.hid (Nat.lt_of_lt_of_le hlt2.out hb1.out.size)
  have hbd2 : Hid (Below W.heap.size W w1) := Lib.hid hz2.out.bel
  obtain ⟨hbM, -⟩ := hz2.out.box 1 rfl
  have x0 : w1.cell? ⟨MB, 0, none⟩ = some (.slice ab_ nb_ cb_) := box_cell hbM 0
  have x1 : w1.cell? ⟨MB, 1, none⟩ = some (.int .u64 m.nv) := box_cell hbM 1
  have x2 : w1.cell? ⟨MB, 2, none⟩ = some (.slice ah_ m.homes.length ch_) := box_cell hbM 2
  have x3 : w1.cell? ⟨MB, 3, none⟩ = some (.slice as_ m.seats.length cs_) := box_cell hbM 3
  have x4 : w1.cell? ⟨MB, 4, none⟩ = some (.int .u64 m.ns) := box_cell hbM 4
  have x5 : w1.cell? ⟨MB, 5, none⟩ = some (.int .u64 m.sweeps) := box_cell hbM 5
  clear hbM hz1 hst1 hlt2 hb1
  go_wp2_with fail
  refine (light_any _ _ (hin0.out w1 hbd2.out) (hll.out w1 hbd2.out)).mono ?_
  rintro e w2 ⟨rfl, hb2⟩
  dsimp only
  have hz3 := Lib.hid (hz2.out.below hb2.out)
  have hst3 := Lib.hid (hst2.out.below hb2.out)
  have hlt4 := Lib.hid (Nat.lt_of_lt_of_le hlt3.out hb2.out.size)
  have hbd3 : Hid (Below W.heap.size W w2) := Lib.hid hz3.out.bel
  obtain ⟨hbM, -⟩ := hz3.out.box 1 rfl
  clear x0 x1 x2 x3 x4 x5 hb2 hz2 hst2 hlt3 hbd2
  have x0 : w2.cell? ⟨MB, 0, none⟩ = some (.slice ab_ nb_ cb_) := box_cell hbM 0
  have x1 : w2.cell? ⟨MB, 1, none⟩ = some (.int .u64 m.nv) := box_cell hbM 1
  have x2 : w2.cell? ⟨MB, 2, none⟩ = some (.slice ah_ m.homes.length ch_) := box_cell hbM 2
  have x3 : w2.cell? ⟨MB, 3, none⟩ = some (.slice as_ m.seats.length cs_) := box_cell hbM 3
  have x4 : w2.cell? ⟨MB, 4, none⟩ = some (.int .u64 m.ns) := box_cell hbM 4
  have x5 : w2.cell? ⟨MB, 5, none⟩ = some (.int .u64 m.sweeps) := box_cell hbM 5
  generalize hB : lightB m (l.map (·.1)) = B
  replace hB := Lib.hid hB
  cases B with
  | false =>
    clear hbM
    go_wp2_with fail
    refine (alive_any _).mono ?_
    rintro e wz ⟨rfl, hbz⟩
    dsimp only
    have hbF := Lib.hid (hz3.out.below hbz.out).bel
    clear x0 x1 x2 x3 x4 x5 hz3
    go_wp2_with fail
    go_ret
    first | exact ⟨rfl, hbF.out⟩ | (rw [← hMB.out]; exact ⟨rfl, hbF.out⟩)
  | true =>
    obtain ⟨hbR, -⟩ := hz3.out.box (B := RB) (C := (rqCells q y).toArray) (t := 41) 0 rfl
    have hld := Lib.hid (fun j v (hj : (rqCells q y)[j]? = some v) => (show w2.cell? ⟨RB, 0 + j, none⟩ = some v by rw [Nat.zero_add, box_cell hbR j, List.getElem?_toArray]; exact hj))
    clear hbM hbR
    go_wp2_with (first | refine wpList_load_cells_w (by rfl) 41 (.tmp 4) rfl RB 0 (rqCells q y) (by rfl) Tryz.isAgg41 Tryz.sizeOf41 hld.out ?_ | refine wpList_rq1 (q := q) (y := y) (by rfl) (.tmp 24) rfl (by rfl) ?_)
    have hba := (Below.refl w2.heap.size w2).alloc (Nat.le_refl _) (.cells (rqCells q y).toArray 41)
    have hnw := heap_alloc_new w2 (.cells (rqCells q y).toArray 41)
    have hnl : w2.heap.size < (w2.alloc (.cells (rqCells q y).toArray 41)).heap.size := by simp
    have hz4 := Lib.hid (hz3.out.below hba)
    have hst4 := Lib.hid (hst3.out.below hba)
    generalize (w2.alloc (.cells (rqCells q y).toArray 41)) = w3 at hba hnw hnl hz4 hst4 ⊢
    have hlt5 := Lib.hid (Nat.lt_of_lt_of_le hlt4.out hba.size)
    generalize w2.heap.size = LB at hnw hnl ⊢
    have hrqs : RqsIn w3 (.slice (some ⟨LB, 0, none⟩) 1 1) [(q, y)] := ⟨⟨_, 1, rfl, .inr ⟨LB, 0, rfl, hnl, Nat.le_refl _, fun i v hv => by
      rw [Nat.zero_add, box_cell hnw i, List.getElem?_toArray, ← hv]
      show _ = (rqCells q y ++ [])[i]?
      rw [List.append_nil]⟩⟩, fun p hp => by rw [List.mem_singleton.1 hp]; exact hq0.out w3 hz4.out.bel⟩
    refine (light_any _ _ (hin0.out w3 hz4.out.bel) hrqs).mono ?_
    rintro e w4 ⟨rfl, hb4⟩
    dsimp only
    have hz5 := Lib.hid (hz4.out.below hb4.out)
    have hst5 := Lib.hid (hst4.out.below hb4.out)
    have hlt6 := Lib.hid (Nat.lt_of_lt_of_le hlt5.out hb4.out.size)
    clear x0 x1 x2 x3 x4 x5 hld hba hnw hnl hrqs hz4 hz3 hst4 hst3 hlt4 hlt5 hb4 hbd3
    generalize hB2 : lightB _ _ = B2
    replace hB2 := Lib.hid hB2
    cases B2 with
    | false =>
      go_wp2_with fail
      refine (alive_any _).mono ?_
      rintro e wz ⟨rfl, hbz⟩
      dsimp only
      have hbF := Lib.hid (hz5.out.below hbz.out).bel
      clear hz5
      go_wp2_with fail
      go_ret
      first | exact ⟨rfl, hbF.out⟩ | (rw [← hMB.out]; exact ⟨rfl, hbF.out⟩)
    | true =>
      have hqo := Lib.hid (light_rq hB2.out q (List.mem_cons_self ..))
      have hrq := Lib.hid (light_rq hB.out)
      have hask := Lib.hid (light_ask hB.out)
      have hl200 : Hid (l.length ≤ 200) := Lib.hid (by have := (light_parts hB.out).2.2.2.1; rw [List.length_map] at this; exact this)
      clear hB hB2 hin0 hll
      go_upto_region 3 with fail
      go_cut [7] (fun v7 wx => ∃ (OB : Nat) (m0 m1 : Ml) (o1 : Oc) (aU1 : Option Addr) (cU1 : Nat) (aM1 : Option Addr) (cM1 : Nat), v7 = .pointer (some ⟨OB, 0, none⟩) ∧ Hid (RightP m0 ∧ applyM m0 q = (m1, o1)) ∧ Hid (On3 W MB RB OB q y m1 [.int .i64 o1.code, .int .u64 o1.session, .int .u64 o1.validity, .slice aU1 o1.uids.length cU1, .slice aM1 o1.mods.length cM1] wx) ∧ Hid (Stay (okL [MB, OB]) wx (fun x => OcIn x (.agg [.int .i64 o1.code, .int .u64 o1.session, .int .u64 o1.validity, .slice aU1 o1.uids.length cU1, .slice aM1 o1.mods.length cM1].toArray) o1)))
      case first =>
        have hzd := hz5.out.drew
        have sC0 := (hst5.out.below ((Below.refl _ _).drew)).one
        have hL0 : ∀ b ∈ [MB], b < w4.drew.heap.size := fun b hb => by rw [List.mem_singleton.1 hb]; have h1 := hlt1.out; have h2 := hlt6.out; show MB < w4.heap.size; omega
        have hSn := Lib.hid (And.intro (hzd.box (B := MB) (C := [.slice ab_ nb_ cb_, .int .u64 m.nv, .slice ah_ m.homes.length ch_, .slice as_ m.seats.length cs_, .int .u64 m.ns, .int .u64 m.sweeps].toArray) (t := 27) 1 rfl).1 (hzd.box (B := RB) (C := (rqCells q y).toArray) (t := 41) 0 rfl).1)
        refine wp_region_hdP 8 (fun b w' => Hid (b = false → w'.heap[MB]? = some (.cells [.slice ab_ nb_ cb_, .int .u64 m.nv, .slice ah_ m.homes.length ch_, .slice as_ m.seats.length cs_, .int .u64 m.ns, .int .u64 m.sweeps].toArray 27 (0, 0)) ∧ w'.heap[RB]? = some (.cells (rqCells q y).toArray 41 (0, 0)))) 9 1 (by kernel_rfl) rfl ⟨by kernel_rfl, by kernel_rfl⟩ (Lib.hid fun _ => hSn.out) (fun hok hS0 => ?_)
        clear hS0 hz5 hst5 hlt6
        generalize w4.drew = Wd at *
        refine HdP.take (i := 0) (v := .agg [.slice ab_ nb_ cb_, .int .u64 m.nv, .slice ah_ m.homes.length ch_, .slice as_ m.seats.length cs_, .int .u64 m.ns, .int .u64 m.sweeps].toArray) hok rfl (by kernel_rfl) (fun _ _ _ h => h) (by decide) (yields_load_cells 27 (.tmp 3) rfl MB 0 [.slice ab_ nb_ cb_, .int .u64 m.nv, .slice ah_ m.homes.length ch_, .slice as_ m.seats.length cs_, .int .u64 m.ns, .int .u64 m.sweeps] (by rfl) Tryz.isAgg27 Tryz.sizeOf27 rfl (fun W hS j v hj => by rw [Nat.zero_add, box_cell ((hS.early (by kernel_rfl)).out rfl).1 j, List.getElem?_toArray]; exact hj)) (Lib.hid fun _ => hSn.out) ?_
        try simp only [List.getElem_toArray, List.getElem_cons_succ, List.getElem_cons_zero, Act.put, List.setIfInBounds_toArray, List.set_cons_zero, List.set_cons_succ]
        refine HdP.take (i := 2) (v := .agg (rqCells q y).toArray) hok rfl (by kernel_rfl) (fun _ _ _ h => h) (by decide) (yields_load_cells 41 (.tmp 4) rfl RB 0 (rqCells q y) (by rfl) Tryz.isAgg41 Tryz.sizeOf41 rfl (fun W hS j v hj => by rw [Nat.zero_add, box_cell ((hS.early (by kernel_rfl)).out rfl).2 j, List.getElem?_toArray]; exact hj)) (Lib.hid fun _ => hSn.out) ?_
        try simp only [List.getElem_toArray, List.getElem_cons_succ, List.getElem_cons_zero, Act.put, List.setIfInBounds_toArray, List.set_cons_zero, List.set_cons_succ]
        refine HdP.two (i := 1) (k := 7) rfl rfl (by kernel_rfl) (fun K hK => ?_) (fun K hK => ?_)
        · go_simp
          refine (begun_any _ sC0.now hask.out).mono ?_
          intro e w1o hbr
          obtain ⟨C0, m0, rfl, hr0, sM_w1o, hb_w1o⟩ := hbr.rightL sC0 hL0
          obtain ⟨ab0, cb0, nb0, ah0, ch0, as0, cs0, rfl⟩ := sM_w1o.now.shape
          dsimp only
          clear hbr
          obtain ⟨⟨m1, o1⟩, hap⟩ : ∃ r, applyM m0 q = r := ⟨_, rfl⟩
          have hz_w1o := hzd.below hb_w1o
          have hL_w1o := ltL_below hL0 hb_w1o.size
          have hSn := Lib.hid (And.intro (hz_w1o.box (B := MB) (C := [.slice ab_ nb_ cb_, .int .u64 m.nv, .slice ah_ m.homes.length ch_, .slice as_ m.seats.length cs_, .int .u64 m.ns, .int .u64 m.sweeps].toArray) (t := 27) 1 rfl).1 (hz_w1o.box (B := RB) (C := (rqCells q y).toArray) (t := 41) 0 rfl).1)
          refine hK _ _ (Lib.hid fun _ => hSn.out) ?_
          clear hK K
          try simp only [List.getElem_toArray, List.getElem_cons_succ, List.getElem_cons_zero, Act.put, List.setIfInBounds_toArray, List.set_cons_zero, List.set_cons_succ]
          refine HdP.two (i := 3) (k := 7) rfl rfl (by kernel_rfl) (fun K hK => ?_) (fun K hK => ?_)
          · go_simp
            have hca := apply_any _ sM_w1o.now hr0.ap (hq0.out w1o hz_w1o.bel) hqo.out
            rw [hap] at hca
            refine hca.mono ?_
            rintro e w2o ⟨vD, oD, rfl, hvD, hoD, hb_w2o⟩
            dsimp only
            obtain ⟨ab2, cb2, nb2, ah2, ch2, as2, cs2, rfl⟩ := hvD.out.now.out_
            obtain ⟨aU1, cU1, aM1, cM1, rfl⟩ := hoD.out.now.out_
            have hz_w2o := hz_w1o.below hb_w2o.out
            have sD_w2o := hvD.out.okL hL_w1o
            have sO_w2o := hoD.out.okL hL_w1o
            have hL_w2o := ltL_below hL_w1o hb_w2o.out.size
            clear hvD hoD hca
            have hSn := Lib.hid (And.intro (hz_w2o.box (B := MB) (C := [.slice ab_ nb_ cb_, .int .u64 m.nv, .slice ah_ m.homes.length ch_, .slice as_ m.seats.length cs_, .int .u64 m.ns, .int .u64 m.sweeps].toArray) (t := 27) 1 rfl).1 (hz_w2o.box (B := RB) (C := (rqCells q y).toArray) (t := 41) 0 rfl).1)
            refine hK _ _ (Lib.hid fun _ => hSn.out) ?_
            clear hK K
            try simp only [List.getElem_toArray, List.getElem_cons_succ, List.getElem_cons_zero, Act.put, List.setIfInBounds_toArray, List.set_cons_zero, List.set_cons_succ]
            refine HdP.take (i := 4) (v := ?tv526) hok rfl (by kernel_rfl) (fun _ _ _ h => h) (by decide) (Or.inl ⟨by rfl, ?ty526⟩) (Lib.hid fun _ => hSn.out) ?tr526
            case ty526 => (intro w hSw; clear hSw; go_simp; (try with_reducible rfl))
            try simp only [List.getElem_toArray, List.getElem_cons_succ, List.getElem_cons_zero, Act.put, List.setIfInBounds_toArray, List.set_cons_zero, List.set_cons_succ]
            refine HdP.take (i := 5) (v := ?tv527) hok rfl (by kernel_rfl) (fun _ _ _ h => h) (by decide) (Or.inl ⟨by rfl, ?ty527⟩) (Lib.hid fun _ => hSn.out) ?tr527
            case ty527 => (intro w hSw; clear hSw; go_simp; (try with_reducible rfl))
            try simp only [List.getElem_toArray, List.getElem_cons_succ, List.getElem_cons_zero, Act.put, List.setIfInBounds_toArray, List.set_cons_zero, List.set_cons_succ]
            refine HdP.take (i := 6) (v := ?tv528) hok rfl (by kernel_rfl) (fun _ _ _ h => h) (by decide) (Or.inl ⟨by rfl, ?ty528⟩) (Lib.hid fun _ => hSn.out) ?tr528
            case ty528 => (intro w hSw; clear hSw; go_simp; (try with_reducible rfl))
            try simp only [List.getElem_toArray, List.getElem_cons_succ, List.getElem_cons_zero, Act.put, List.setIfInBounds_toArray, List.set_cons_zero, List.set_cons_succ]
            refine HdP.one (i := 7) rfl (by kernel_rfl) (fun K hK => ?_)
            go_simp
            have hz_w3o := hz_w2o.newBox [.int .i64 0, .int .u64 0, .int .u64 0, .slice none 0 0, .slice none 0 0].toArray 35
            have hL_w3o := ltL_alloc hL_w2o (.cells [.int .i64 0, .int .u64 0, .int .u64 0, .slice none 0 0, .slice none 0 0].toArray 35)
            have sC_w3o := sC0.allocL (.cells [.int .i64 0, .int .u64 0, .int .u64 0, .slice none 0 0, .slice none 0 0].toArray 35)
            have sD_w3o := sD_w2o.allocL (.cells [.int .i64 0, .int .u64 0, .int .u64 0, .slice none 0 0, .slice none 0 0].toArray 35)
            have sO_w3o := sO_w2o.allocL (.cells [.int .i64 0, .int .u64 0, .int .u64 0, .slice none 0 0, .slice none 0 0].toArray 35)
            generalize (w2o.alloc (.cells [.int .i64 0, .int .u64 0, .int .u64 0, .slice none 0 0, .slice none 0 0].toArray 35)) = w3o at hz_w3o hL_w3o sC_w3o sD_w3o sO_w3o ⊢
            have hSn := Lib.hid (And.intro (hz_w3o.box (B := MB) (C := [.slice ab_ nb_ cb_, .int .u64 m.nv, .slice ah_ m.homes.length ch_, .slice as_ m.seats.length cs_, .int .u64 m.ns, .int .u64 m.sweeps].toArray) (t := 27) 2 rfl).1 (hz_w3o.box (B := RB) (C := (rqCells q y).toArray) (t := 41) 1 rfl).1)
            refine hK _ _ (Lib.hid fun _ => hSn.out) ?_
            clear hK K
            try simp only [List.getElem_toArray, List.getElem_cons_succ, List.getElem_cons_zero, Act.put, List.setIfInBounds_toArray, List.set_cons_zero, List.set_cons_succ]
            refine HdP.one (i := 8) rfl (by kernel_rfl) (fun K hK => ?_)
            have hs1 := hz_w3o.boxSome (B := MB) (C := [.slice ab_ nb_ cb_, .int .u64 m.nv, .slice ah_ m.homes.length ch_, .slice as_ m.seats.length cs_, .int .u64 m.ns, .int .u64 m.sweeps]) (t := 27) 2 rfl
            refine wp_store_op rfl 27 (.tmp 3) (.tmp 35) rfl MB 0 [.slice ab2 nb2 cb2, .int .u64 m1.nv, .slice ah2 m1.homes.length ch2, .slice as2 m1.seats.length cs2, .int .u64 m1.ns, .int .u64 m1.sweeps] rfl rfl Tryz.sizeOf27 (al_one6 _ _ _ _ _ _ _ _ _ _ _ _) hs1.1 hs1.2 ?_
            have hz9 := hz_w3o.fillBox (B := MB) (C := [.slice ab_ nb_ cb_, .int .u64 m.nv, .slice ah_ m.homes.length ch_, .slice as_ m.seats.length cs_, .int .u64 m.ns, .int .u64 m.sweeps]) (t := 27) 2 rfl [.slice ab2 nb2 cb2, .int .u64 m1.nv, .slice ah2 m1.homes.length ch2, .slice as2 m1.seats.length cs2, .int .u64 m1.ns, .int .u64 m1.sweeps] rfl
            have sD9 := sD_w3o.setL (.tail _ (.head _)) [.slice ab2 nb2 cb2, .int .u64 m1.nv, .slice ah2 m1.homes.length ch2, .slice as2 m1.seats.length cs2, .int .u64 m1.ns, .int .u64 m1.sweeps]
            have sO9 := sO_w3o.setL (.tail _ (.head _)) [.slice ab2 nb2 cb2, .int .u64 m1.nv, .slice ah2 m1.homes.length ch2, .slice as2 m1.seats.length cs2, .int .u64 m1.ns, .int .u64 m1.sweeps]
            generalize w3o.setCells MB 0 [.slice ab2 nb2 cb2, .int .u64 m1.nv, .slice ah2 m1.homes.length ch2, .slice as2 m1.seats.length cs2, .int .u64 m1.ns, .int .u64 m1.sweeps] = w9o at hz9 sD9 sO9 ⊢
            refine hK _ _ (Lib.hid fun h => Bool.noConfusion (h.symm.trans (by kernel_rfl : _ = true))) ?_
            clear hK K hSn
            try simp only [List.getElem_toArray, List.getElem_cons_succ, List.getElem_cons_zero, Act.put, List.setIfInBounds_toArray, List.set_cons_zero, List.set_cons_succ]
            refine HdP.done (by kernel_rfl) ?_
            simp only [List.drop_succ_cons, List.drop_zero]
            have hs2 := hz9.boxSome (C := [.int .i64 0, .int .u64 0, .int .u64 0, .slice none 0 0, .slice none 0 0]) 0 rfl
            refine wpList_store_cells rfl 35 (.tmp 7) (.tmp 36) rfl (w2o.heap.size) 0 [.int .i64 o1.code, .int .u64 o1.session, .int .u64 o1.validity, .slice aU1 o1.uids.length cU1, .slice aM1 o1.mods.length cM1] rfl rfl Tryz.sizeOf35 (al_one5 _ _ _ _ _ _ _) hs2.1 hs2.2 ?_
            have hzA := hz9.fillBox (C := [.int .i64 0, .int .u64 0, .int .u64 0, .slice none 0 0, .slice none 0 0]) 0 rfl [.int .i64 o1.code, .int .u64 o1.session, .int .u64 o1.validity, .slice aU1 o1.uids.length cU1, .slice aM1 o1.mods.length cM1] rfl
            have sDA := sD9.setL (.head _) [.int .i64 o1.code, .int .u64 o1.session, .int .u64 o1.validity, .slice aU1 o1.uids.length cU1, .slice aM1 o1.mods.length cM1]
            have sOA := sO9.setL (.head _) [.int .i64 o1.code, .int .u64 o1.session, .int .u64 o1.validity, .slice aU1 o1.uids.length cU1, .slice aM1 o1.mods.length cM1]
            generalize w9o.setCells (w2o.heap.size) 0 [.int .i64 o1.code, .int .u64 o1.session, .int .u64 o1.validity, .slice aU1 o1.uids.length cU1, .slice aM1 o1.mods.length cM1] = wAo at hzA sDA sOA ⊢
            have hrel : Hid (On3 W MB RB (w2o.heap.size) q y m1 [.int .i64 o1.code, .int .u64 o1.session, .int .u64 o1.validity, .slice aU1 o1.uids.length cU1, .slice aM1 o1.mods.length cM1] wAo) := Lib.hid ⟨_, hzA, sDA.lessL (mem_2 (.tail _ (.head _)) (.head _))⟩
            have hrel2 := Lib.hid (sOA.lessL (mem_2 (.tail _ (.head _)) (.head _)))
            have hrel3 := Lib.hid (And.intro hr0 hap)
            clear hs1 hs2 hz9 sD9 sO9 hzA sDA sOA
            go_wp2_with fail
            go_meet
            case rel => exact ⟨w2o.heap.size, m0, m1, o1, aU1, cU1, aM1, cM1, rfl, hrel3, hrel, hrel2⟩
          · go_simp
            have hz_w4o := hz_w1o.newBox [.int .i64 0, .int .u64 0, .int .u64 0, .slice none 0 0, .slice none 0 0].toArray 35
            have hL_w4o := ltL_alloc hL_w1o (.cells [.int .i64 0, .int .u64 0, .int .u64 0, .slice none 0 0, .slice none 0 0].toArray 35)
            have sC_w4o := sC0.allocL (.cells [.int .i64 0, .int .u64 0, .int .u64 0, .slice none 0 0, .slice none 0 0].toArray 35)
            have sM_w4o := sM_w1o.allocL (.cells [.int .i64 0, .int .u64 0, .int .u64 0, .slice none 0 0, .slice none 0 0].toArray 35)
            generalize (w1o.alloc (.cells [.int .i64 0, .int .u64 0, .int .u64 0, .slice none 0 0, .slice none 0 0].toArray 35)) = w4o at hz_w4o hL_w4o sC_w4o sM_w4o ⊢
            have hSn := Lib.hid (And.intro (hz_w4o.box (B := MB) (C := [.slice ab_ nb_ cb_, .int .u64 m.nv, .slice ah_ m.homes.length ch_, .slice as_ m.seats.length cs_, .int .u64 m.ns, .int .u64 m.sweeps].toArray) (t := 27) 2 rfl).1 (hz_w4o.box (B := RB) (C := (rqCells q y).toArray) (t := 41) 1 rfl).1)
            refine hK _ _ (Lib.hid fun _ => hSn.out) ?_
            clear hK K
            try simp only [List.getElem_toArray, List.getElem_cons_succ, List.getElem_cons_zero, Act.put, List.setIfInBounds_toArray, List.set_cons_zero, List.set_cons_succ]
            refine HdP.one (i := 3) rfl (by kernel_rfl) (fun K hK => ?_)
            go_simp
            have hca := apply_any _ sM_w4o.now hr0.ap (hq0.out w4o hz_w4o.bel) hqo.out
            rw [hap] at hca
            refine hca.mono ?_
            rintro e w5o ⟨vD, oD, rfl, hvD, hoD, hb_w5o⟩
            dsimp only
            obtain ⟨ab2, cb2, nb2, ah2, ch2, as2, cs2, rfl⟩ := hvD.out.now.out_
            obtain ⟨aU1, cU1, aM1, cM1, rfl⟩ := hoD.out.now.out_
            have hz_w5o := hz_w4o.below hb_w5o.out
            have sD_w5o := hvD.out.okL hL_w4o
            have sO_w5o := hoD.out.okL hL_w4o
            have hL_w5o := ltL_below hL_w4o hb_w5o.out.size
            clear hvD hoD hca
            have hSn := Lib.hid (And.intro (hz_w5o.box (B := MB) (C := [.slice ab_ nb_ cb_, .int .u64 m.nv, .slice ah_ m.homes.length ch_, .slice as_ m.seats.length cs_, .int .u64 m.ns, .int .u64 m.sweeps].toArray) (t := 27) 2 rfl).1 (hz_w5o.box (B := RB) (C := (rqCells q y).toArray) (t := 41) 1 rfl).1)
            refine hK _ _ (Lib.hid fun _ => hSn.out) ?_
            clear hK K
            try simp only [List.getElem_toArray, List.getElem_cons_succ, List.getElem_cons_zero, Act.put, List.setIfInBounds_toArray, List.set_cons_zero, List.set_cons_succ]
            refine HdP.take (i := 4) (v := ?tv529) hok rfl (by kernel_rfl) (fun _ _ _ h => h) (by decide) (Or.inl ⟨by rfl, ?ty529⟩) (Lib.hid fun _ => hSn.out) ?tr529
            case ty529 => (intro w hSw; clear hSw; go_simp; (try with_reducible rfl))
            try simp only [List.getElem_toArray, List.getElem_cons_succ, List.getElem_cons_zero, Act.put, List.setIfInBounds_toArray, List.set_cons_zero, List.set_cons_succ]
            refine HdP.take (i := 5) (v := ?tv530) hok rfl (by kernel_rfl) (fun _ _ _ h => h) (by decide) (Or.inl ⟨by rfl, ?ty530⟩) (Lib.hid fun _ => hSn.out) ?tr530
            case ty530 => (intro w hSw; clear hSw; go_simp; (try with_reducible rfl))
            try simp only [List.getElem_toArray, List.getElem_cons_succ, List.getElem_cons_zero, Act.put, List.setIfInBounds_toArray, List.set_cons_zero, List.set_cons_succ]
            refine HdP.take (i := 6) (v := ?tv531) hok rfl (by kernel_rfl) (fun _ _ _ h => h) (by decide) (Or.inl ⟨by rfl, ?ty531⟩) (Lib.hid fun _ => hSn.out) ?tr531
            case ty531 => (intro w hSw; clear hSw; go_simp; (try with_reducible rfl))
            try simp only [List.getElem_toArray, List.getElem_cons_succ, List.getElem_cons_zero, Act.put, List.setIfInBounds_toArray, List.set_cons_zero, List.set_cons_succ]
            refine HdP.one (i := 8) rfl (by kernel_rfl) (fun K hK => ?_)
            have hs1 := hz_w5o.boxSome (B := MB) (C := [.slice ab_ nb_ cb_, .int .u64 m.nv, .slice ah_ m.homes.length ch_, .slice as_ m.seats.length cs_, .int .u64 m.ns, .int .u64 m.sweeps]) (t := 27) 2 rfl
            refine wp_store_op rfl 27 (.tmp 3) (.tmp 35) rfl MB 0 [.slice ab2 nb2 cb2, .int .u64 m1.nv, .slice ah2 m1.homes.length ch2, .slice as2 m1.seats.length cs2, .int .u64 m1.ns, .int .u64 m1.sweeps] rfl rfl Tryz.sizeOf27 (al_one6 _ _ _ _ _ _ _ _ _ _ _ _) hs1.1 hs1.2 ?_
            have hz9 := hz_w5o.fillBox (B := MB) (C := [.slice ab_ nb_ cb_, .int .u64 m.nv, .slice ah_ m.homes.length ch_, .slice as_ m.seats.length cs_, .int .u64 m.ns, .int .u64 m.sweeps]) (t := 27) 2 rfl [.slice ab2 nb2 cb2, .int .u64 m1.nv, .slice ah2 m1.homes.length ch2, .slice as2 m1.seats.length cs2, .int .u64 m1.ns, .int .u64 m1.sweeps] rfl
            have sD9 := sD_w5o.setL (.tail _ (.head _)) [.slice ab2 nb2 cb2, .int .u64 m1.nv, .slice ah2 m1.homes.length ch2, .slice as2 m1.seats.length cs2, .int .u64 m1.ns, .int .u64 m1.sweeps]
            have sO9 := sO_w5o.setL (.tail _ (.head _)) [.slice ab2 nb2 cb2, .int .u64 m1.nv, .slice ah2 m1.homes.length ch2, .slice as2 m1.seats.length cs2, .int .u64 m1.ns, .int .u64 m1.sweeps]
            generalize w5o.setCells MB 0 [.slice ab2 nb2 cb2, .int .u64 m1.nv, .slice ah2 m1.homes.length ch2, .slice as2 m1.seats.length cs2, .int .u64 m1.ns, .int .u64 m1.sweeps] = w9o at hz9 sD9 sO9 ⊢
            refine hK _ _ (Lib.hid fun h => Bool.noConfusion (h.symm.trans (by kernel_rfl : _ = true))) ?_
            clear hK K hSn
            try simp only [List.getElem_toArray, List.getElem_cons_succ, List.getElem_cons_zero, Act.put, List.setIfInBounds_toArray, List.set_cons_zero, List.set_cons_succ]
            refine HdP.done (by kernel_rfl) ?_
            simp only [List.drop_succ_cons, List.drop_zero]
            have hs2 := hz9.boxSome (C := [.int .i64 0, .int .u64 0, .int .u64 0, .slice none 0 0, .slice none 0 0]) 0 rfl
            refine wpList_store_cells rfl 35 (.tmp 7) (.tmp 36) rfl (w1o.heap.size) 0 [.int .i64 o1.code, .int .u64 o1.session, .int .u64 o1.validity, .slice aU1 o1.uids.length cU1, .slice aM1 o1.mods.length cM1] rfl rfl Tryz.sizeOf35 (al_one5 _ _ _ _ _ _ _) hs2.1 hs2.2 ?_
            have hzA := hz9.fillBox (C := [.int .i64 0, .int .u64 0, .int .u64 0, .slice none 0 0, .slice none 0 0]) 0 rfl [.int .i64 o1.code, .int .u64 o1.session, .int .u64 o1.validity, .slice aU1 o1.uids.length cU1, .slice aM1 o1.mods.length cM1] rfl
            have sDA := sD9.setL (.head _) [.int .i64 o1.code, .int .u64 o1.session, .int .u64 o1.validity, .slice aU1 o1.uids.length cU1, .slice aM1 o1.mods.length cM1]
            have sOA := sO9.setL (.head _) [.int .i64 o1.code, .int .u64 o1.session, .int .u64 o1.validity, .slice aU1 o1.uids.length cU1, .slice aM1 o1.mods.length cM1]
            generalize w9o.setCells (w1o.heap.size) 0 [.int .i64 o1.code, .int .u64 o1.session, .int .u64 o1.validity, .slice aU1 o1.uids.length cU1, .slice aM1 o1.mods.length cM1] = wAo at hzA sDA sOA ⊢
            have hrel : Hid (On3 W MB RB (w1o.heap.size) q y m1 [.int .i64 o1.code, .int .u64 o1.session, .int .u64 o1.validity, .slice aU1 o1.uids.length cU1, .slice aM1 o1.mods.length cM1] wAo) := Lib.hid ⟨_, hzA, sDA.lessL (mem_2 (.tail _ (.head _)) (.head _))⟩
            have hrel2 := Lib.hid (sOA.lessL (mem_2 (.tail _ (.head _)) (.head _)))
            have hrel3 := Lib.hid (And.intro hr0 hap)
            clear hs1 hs2 hz9 sD9 sO9 hzA sDA sOA
            go_wp2_with fail
            go_meet
            case rel => exact ⟨w1o.heap.size, m0, m1, o1, aU1, cU1, aM1, cM1, rfl, hrel3, hrel, hrel2⟩
        · go_simp
          have hz_w6o := hzd.newBox [.int .i64 0, .int .u64 0, .int .u64 0, .slice none 0 0, .slice none 0 0].toArray 35
          have hL_w6o := ltL_alloc hL0 (.cells [.int .i64 0, .int .u64 0, .int .u64 0, .slice none 0 0, .slice none 0 0].toArray 35)
          have sC_w6o := sC0.allocL (.cells [.int .i64 0, .int .u64 0, .int .u64 0, .slice none 0 0, .slice none 0 0].toArray 35)
          generalize (Wd.alloc (.cells [.int .i64 0, .int .u64 0, .int .u64 0, .slice none 0 0, .slice none 0 0].toArray 35)) = w6o at hz_w6o hL_w6o sC_w6o ⊢
          have hSn := Lib.hid (And.intro (hz_w6o.box (B := MB) (C := [.slice ab_ nb_ cb_, .int .u64 m.nv, .slice ah_ m.homes.length ch_, .slice as_ m.seats.length cs_, .int .u64 m.ns, .int .u64 m.sweeps].toArray) (t := 27) 2 rfl).1 (hz_w6o.box (B := RB) (C := (rqCells q y).toArray) (t := 41) 1 rfl).1)
          refine hK _ _ (Lib.hid fun _ => hSn.out) ?_
          clear hK K
          try simp only [List.getElem_toArray, List.getElem_cons_succ, List.getElem_cons_zero, Act.put, List.setIfInBounds_toArray, List.set_cons_zero, List.set_cons_succ]
          refine HdP.one (i := 1) rfl (by kernel_rfl) (fun K hK => ?_)
          go_simp
          refine (begun_any _ sC_w6o.now hask.out).mono ?_
          intro e w7o hbr
          obtain ⟨C0, m0, rfl, hr0, sM_w7o, hb_w7o⟩ := hbr.rightL sC_w6o hL_w6o
          obtain ⟨ab0, cb0, nb0, ah0, ch0, as0, cs0, rfl⟩ := sM_w7o.now.shape
          dsimp only
          clear hbr
          obtain ⟨⟨m1, o1⟩, hap⟩ : ∃ r, applyM m0 q = r := ⟨_, rfl⟩
          have hz_w7o := hz_w6o.below hb_w7o
          have hL_w7o := ltL_below hL_w6o hb_w7o.size
          have hSn := Lib.hid (And.intro (hz_w7o.box (B := MB) (C := [.slice ab_ nb_ cb_, .int .u64 m.nv, .slice ah_ m.homes.length ch_, .slice as_ m.seats.length cs_, .int .u64 m.ns, .int .u64 m.sweeps].toArray) (t := 27) 2 rfl).1 (hz_w7o.box (B := RB) (C := (rqCells q y).toArray) (t := 41) 1 rfl).1)
          refine hK _ _ (Lib.hid fun _ => hSn.out) ?_
          clear hK K
          try simp only [List.getElem_toArray, List.getElem_cons_succ, List.getElem_cons_zero, Act.put, List.setIfInBounds_toArray, List.set_cons_zero, List.set_cons_succ]
          refine HdP.one (i := 3) rfl (by kernel_rfl) (fun K hK => ?_)
          go_simp
          have hca := apply_any _ sM_w7o.now hr0.ap (hq0.out w7o hz_w7o.bel) hqo.out
          rw [hap] at hca
          refine hca.mono ?_
          rintro e w8o ⟨vD, oD, rfl, hvD, hoD, hb_w8o⟩
          dsimp only
          obtain ⟨ab2, cb2, nb2, ah2, ch2, as2, cs2, rfl⟩ := hvD.out.now.out_
          obtain ⟨aU1, cU1, aM1, cM1, rfl⟩ := hoD.out.now.out_
          have hz_w8o := hz_w7o.below hb_w8o.out
          have sD_w8o := hvD.out.okL hL_w7o
          have sO_w8o := hoD.out.okL hL_w7o
          have hL_w8o := ltL_below hL_w7o hb_w8o.out.size
          clear hvD hoD hca
          have hSn := Lib.hid (And.intro (hz_w8o.box (B := MB) (C := [.slice ab_ nb_ cb_, .int .u64 m.nv, .slice ah_ m.homes.length ch_, .slice as_ m.seats.length cs_, .int .u64 m.ns, .int .u64 m.sweeps].toArray) (t := 27) 2 rfl).1 (hz_w8o.box (B := RB) (C := (rqCells q y).toArray) (t := 41) 1 rfl).1)
          refine hK _ _ (Lib.hid fun _ => hSn.out) ?_
          clear hK K
          try simp only [List.getElem_toArray, List.getElem_cons_succ, List.getElem_cons_zero, Act.put, List.setIfInBounds_toArray, List.set_cons_zero, List.set_cons_succ]
          refine HdP.take (i := 4) (v := ?tv532) hok rfl (by kernel_rfl) (fun _ _ _ h => h) (by decide) (Or.inl ⟨by rfl, ?ty532⟩) (Lib.hid fun _ => hSn.out) ?tr532
          case ty532 => (intro w hSw; clear hSw; go_simp; (try with_reducible rfl))
          try simp only [List.getElem_toArray, List.getElem_cons_succ, List.getElem_cons_zero, Act.put, List.setIfInBounds_toArray, List.set_cons_zero, List.set_cons_succ]
          refine HdP.take (i := 5) (v := ?tv533) hok rfl (by kernel_rfl) (fun _ _ _ h => h) (by decide) (Or.inl ⟨by rfl, ?ty533⟩) (Lib.hid fun _ => hSn.out) ?tr533
          case ty533 => (intro w hSw; clear hSw; go_simp; (try with_reducible rfl))
          try simp only [List.getElem_toArray, List.getElem_cons_succ, List.getElem_cons_zero, Act.put, List.setIfInBounds_toArray, List.set_cons_zero, List.set_cons_succ]
          refine HdP.take (i := 6) (v := ?tv534) hok rfl (by kernel_rfl) (fun _ _ _ h => h) (by decide) (Or.inl ⟨by rfl, ?ty534⟩) (Lib.hid fun _ => hSn.out) ?tr534
          case ty534 => (intro w hSw; clear hSw; go_simp; (try with_reducible rfl))
          try simp only [List.getElem_toArray, List.getElem_cons_succ, List.getElem_cons_zero, Act.put, List.setIfInBounds_toArray, List.set_cons_zero, List.set_cons_succ]
          refine HdP.one (i := 8) rfl (by kernel_rfl) (fun K hK => ?_)
          have hs1 := hz_w8o.boxSome (B := MB) (C := [.slice ab_ nb_ cb_, .int .u64 m.nv, .slice ah_ m.homes.length ch_, .slice as_ m.seats.length cs_, .int .u64 m.ns, .int .u64 m.sweeps]) (t := 27) 2 rfl
          refine wp_store_op rfl 27 (.tmp 3) (.tmp 35) rfl MB 0 [.slice ab2 nb2 cb2, .int .u64 m1.nv, .slice ah2 m1.homes.length ch2, .slice as2 m1.seats.length cs2, .int .u64 m1.ns, .int .u64 m1.sweeps] rfl rfl Tryz.sizeOf27 (al_one6 _ _ _ _ _ _ _ _ _ _ _ _) hs1.1 hs1.2 ?_
          have hz9 := hz_w8o.fillBox (B := MB) (C := [.slice ab_ nb_ cb_, .int .u64 m.nv, .slice ah_ m.homes.length ch_, .slice as_ m.seats.length cs_, .int .u64 m.ns, .int .u64 m.sweeps]) (t := 27) 2 rfl [.slice ab2 nb2 cb2, .int .u64 m1.nv, .slice ah2 m1.homes.length ch2, .slice as2 m1.seats.length cs2, .int .u64 m1.ns, .int .u64 m1.sweeps] rfl
          have sD9 := sD_w8o.setL (.tail _ (.head _)) [.slice ab2 nb2 cb2, .int .u64 m1.nv, .slice ah2 m1.homes.length ch2, .slice as2 m1.seats.length cs2, .int .u64 m1.ns, .int .u64 m1.sweeps]
          have sO9 := sO_w8o.setL (.tail _ (.head _)) [.slice ab2 nb2 cb2, .int .u64 m1.nv, .slice ah2 m1.homes.length ch2, .slice as2 m1.seats.length cs2, .int .u64 m1.ns, .int .u64 m1.sweeps]
          generalize w8o.setCells MB 0 [.slice ab2 nb2 cb2, .int .u64 m1.nv, .slice ah2 m1.homes.length ch2, .slice as2 m1.seats.length cs2, .int .u64 m1.ns, .int .u64 m1.sweeps] = w9o at hz9 sD9 sO9 ⊢
          refine hK _ _ (Lib.hid fun h => Bool.noConfusion (h.symm.trans (by kernel_rfl : _ = true))) ?_
          clear hK K hSn
          try simp only [List.getElem_toArray, List.getElem_cons_succ, List.getElem_cons_zero, Act.put, List.setIfInBounds_toArray, List.set_cons_zero, List.set_cons_succ]
          refine HdP.done (by kernel_rfl) ?_
          simp only [List.drop_succ_cons, List.drop_zero]
          have hs2 := hz9.boxSome (C := [.int .i64 0, .int .u64 0, .int .u64 0, .slice none 0 0, .slice none 0 0]) 0 rfl
          refine wpList_store_cells rfl 35 (.tmp 7) (.tmp 36) rfl (Wd.heap.size) 0 [.int .i64 o1.code, .int .u64 o1.session, .int .u64 o1.validity, .slice aU1 o1.uids.length cU1, .slice aM1 o1.mods.length cM1] rfl rfl Tryz.sizeOf35 (al_one5 _ _ _ _ _ _ _) hs2.1 hs2.2 ?_
          have hzA := hz9.fillBox (C := [.int .i64 0, .int .u64 0, .int .u64 0, .slice none 0 0, .slice none 0 0]) 0 rfl [.int .i64 o1.code, .int .u64 o1.session, .int .u64 o1.validity, .slice aU1 o1.uids.length cU1, .slice aM1 o1.mods.length cM1] rfl
          have sDA := sD9.setL (.head _) [.int .i64 o1.code, .int .u64 o1.session, .int .u64 o1.validity, .slice aU1 o1.uids.length cU1, .slice aM1 o1.mods.length cM1]
          have sOA := sO9.setL (.head _) [.int .i64 o1.code, .int .u64 o1.session, .int .u64 o1.validity, .slice aU1 o1.uids.length cU1, .slice aM1 o1.mods.length cM1]
          generalize w9o.setCells (Wd.heap.size) 0 [.int .i64 o1.code, .int .u64 o1.session, .int .u64 o1.validity, .slice aU1 o1.uids.length cU1, .slice aM1 o1.mods.length cM1] = wAo at hzA sDA sOA ⊢
          have hrel : Hid (On3 W MB RB (Wd.heap.size) q y m1 [.int .i64 o1.code, .int .u64 o1.session, .int .u64 o1.validity, .slice aU1 o1.uids.length cU1, .slice aM1 o1.mods.length cM1] wAo) := Lib.hid ⟨_, hzA, sDA.lessL (mem_2 (.tail _ (.head _)) (.head _))⟩
          have hrel2 := Lib.hid (sOA.lessL (mem_2 (.tail _ (.head _)) (.head _)))
          have hrel3 := Lib.hid (And.intro hr0 hap)
          clear hs1 hs2 hz9 sD9 sO9 hzA sDA sOA
          go_wp2_with fail
          go_meet
          case rel => exact ⟨Wd.heap.size, m0, m1, o1, aU1, cU1, aM1, cM1, rfl, hrel3, hrel, hrel2⟩
      case rest =>
      obtain ⟨OB, m0, m1, o1, aU1, cU1, aM1, cM1, rfl, hra, hOn, hO⟩ := hcut
      generalize wc = w5 at *
      clear hz5 hst5 hlt6 hlt1 hask
      have hr0 := Lib.hid hra.out.1
      have hap := Lib.hid hra.out.2
      have hr1 : Hid (RightP m1) := Lib.hid (by have := apply_right q hr0.out; rw [hap.out] at this; exact this)
      clear hra
      obtain ⟨C1, hz, hs⟩ := hOn.out
      obtain ⟨ab1, cb1, nb1, ah1, ch1, as1, cs1, rfl⟩ := hs.now.shape
      obtain ⟨hbO, -⟩ := hz.box (B := OB) (C := [.int .i64 o1.code, .int .u64 o1.session, .int .u64 o1.validity, .slice aU1 o1.uids.length cU1, .slice aM1 o1.mods.length cM1].toArray) (t := 35) 0 rfl
      obtain ⟨hbR, -⟩ := hz.box (B := RB) (C := (rqCells q y).toArray) (t := 41) 1 rfl
      have c0 : w5.cell? ⟨RB, 0, none⟩ = some (.int .i64 q.op) := box_cell hbR 0
      have c9 : w5.cell? ⟨RB, 9, none⟩ = some (.slice y.au q.uids.length y.cu) := box_cell hbR 9
      have o0 : w5.cell? ⟨OB, 0, none⟩ = some (.int .i64 o1.code) := box_cell hbO 0
      have hbF := Lib.hid hz.bel
      by_cases hbad : q.op < 1 ∨ 9 < q.op ∨ 64 < q.uids.length
      · have hb := once_bad (m := m0) q hbad
        rw [hap.out] at hb
        clear hz hs hbO hbR hap hr0 hr1 hOn hO
        rcases hb with ⟨h10, hc | hc⟩ | hc
        · rw [show o1.code = 0 from hc] at o0
          rw [h10] at c0
          clear hbad hc h10
          go_wp2_with fail
          go_ret
          first | exact ⟨rfl, hbF.out⟩ | (rw [← hMB.out]; exact ⟨rfl, hbF.out⟩)
        · rw [show o1.code = 13 from hc] at o0
          rw [h10] at c0
          clear hbad hc h10
          go_wp2_with fail
          go_ret
          first | exact ⟨rfl, hbF.out⟩ | (rw [← hMB.out]; exact ⟨rfl, hbF.out⟩)
        · rw [show o1.code = 1 from hc] at o0
          clear hc
          have hb2 := Lib.hid hbad
          clear hbad
          cases p1 : decide (q.op < 1) with
          | true =>
            have p4 : (q.op == 10) = false := by rw [beq_eq_false_iff_ne]; have := of_decide_eq_true p1; omega
            go_wp2_with fail
            go_ret
            first | exact ⟨rfl, hbF.out⟩ | (rw [← hMB.out]; exact ⟨rfl, hbF.out⟩)
          | false =>
            cases p2 : decide (9 < q.op) with
            | true =>
              cases p4 : (q.op == 10) with
              | true =>
                go_wp2_with fail
                go_ret
                first | exact ⟨rfl, hbF.out⟩ | (rw [← hMB.out]; exact ⟨rfl, hbF.out⟩)
              | false =>
                go_wp2_with fail
                go_ret
                first | exact ⟨rfl, hbF.out⟩ | (rw [← hMB.out]; exact ⟨rfl, hbF.out⟩)
            | false =>
              have h9 : ¬ 9 < q.op := of_decide_eq_false p2
              have h1 : ¬ q.op < 1 := of_decide_eq_false p1
              have p3 : decide (64 < q.uids.length) = true := decide_eq_true (by have := hb2.out; omega)
              have p3' : decide ((64 : Int) < (q.uids.length : Int)) = true := decide_eq_true (by have := of_decide_eq_true p3; omega)
              have p4 : (q.op == 10) = false := by rw [beq_eq_false_iff_ne]; omega
              clear h9 h1
              go_wp2_with fail
              go_ret
              first | exact ⟨rfl, hbF.out⟩ | (rw [← hMB.out]; exact ⟨rfl, hbF.out⟩)
      have p1 : decide (q.op < 1) = false := decide_eq_false (by omega)
      have p2 : decide (9 < q.op) = false := decide_eq_false (by omega)
      have p3 : decide (64 < q.uids.length) = false := decide_eq_false (by omega)
      have p3' : decide ((64 : Int) < (q.uids.length : Int)) = false := decide_eq_false (by omega)
      have hgood := Lib.hid hbad
      clear hbad
      by_cases hop : q.op = 1
      · have p5 : (q.op == 1) = true := by rw [hop]; rfl
        have hag : Hid (applyM m1 q = (m1, o1)) := Lib.hid (by have h := once_open (m := m0) q hr0.out hop (fun h => hgood.out (.inr (.inr h))); rw [hap.out] at h; exact h)
        have p5x := hop
        replace p5x : Hid (q.op = 1) := Lib.hid p5x
        clear hop
        obtain ⟨hbM, -⟩ := hz.box (B := MB) (C := [.slice ab1 nb1 cb1, .int .u64 m1.nv, .slice ah1 m1.homes.length ch1, .slice as1 m1.seats.length cs1, .int .u64 m1.ns, .int .u64 m1.sweeps].toArray) (t := 27) 2 rfl
        have x0 : w5.cell? ⟨MB, 0, none⟩ = some (.slice ab1 nb1 cb1) := box_cell hbM 0
        have x1 : w5.cell? ⟨MB, 1, none⟩ = some (.int .u64 m1.nv) := box_cell hbM 1
        have x2 : w5.cell? ⟨MB, 2, none⟩ = some (.slice ah1 m1.homes.length ch1) := box_cell hbM 2
        have x3 : w5.cell? ⟨MB, 3, none⟩ = some (.slice as1 m1.seats.length cs1) := box_cell hbM 3
        have x4 : w5.cell? ⟨MB, 4, none⟩ = some (.int .u64 m1.ns) := box_cell hbM 4
        have x5 : w5.cell? ⟨MB, 5, none⟩ = some (.int .u64 m1.sweeps) := box_cell hbM 5
        have hld := Lib.hid (fun j v (hj : (rqCells q y)[j]? = some v) => (show w5.cell? ⟨RB, 0 + j, none⟩ = some v by rw [Nat.zero_add, box_cell hbR j, List.getElem?_toArray]; exact hj))
        replace hz := Lib.hid hz
        replace hs := Lib.hid hs
        clear hbM hbO hbR o0
        go_upto_region 7 with fail
        clear p1 p2 p3 p3' p5 c0 c9
        go_wp2_with (refine wpList_load_cells rfl 41 (.tmp 4) rfl RB 0 (rqCells q y) (by rfl) Tryz.isAgg41 Tryz.sizeOf41 hld.out ?_)
        have hca := apply_any _ hs.out.now hr1.out.ap (hq0.out w5 hz.out.bel) hqo.out
        rw [hag.out] at hca
        refine hca.mono ?_
        rintro e w6 ⟨vD, oD, rfl, hvD, hoD, hb6⟩
        dsimp only
        obtain ⟨ab2, cb2, nb2, ah2, ch2, as2, cs2, rfl⟩ := hvD.out.now.out_
        obtain ⟨aU2, cU2, aM2, cM2, rfl⟩ := hoD.out.now.out_
        clear hca hld x0 x1 x2 x3 x4 x5
        go_upto_region 8 with fail
        have e1 : (w6.alloc (.cells [.slice ab2 nb2 cb2, .int .u64 m1.nv, .slice ah2 m1.homes.length ch2, .slice as2 m1.seats.length cs2, .int .u64 m1.ns, .int .u64 m1.sweeps].toArray 27)).heap.size = w6.heap.size + 1 := by simp
        have hz7 := ((hz.out.below hb6.out).newBox [.slice ab2 nb2 cb2, .int .u64 m1.nv, .slice ah2 m1.homes.length ch2, .slice as2 m1.seats.length cs2, .int .u64 m1.ns, .int .u64 m1.sweeps].toArray 27).newBox [.int .i64 o1.code, .int .u64 o1.session, .int .u64 o1.validity, .slice aU2 o1.uids.length cU2, .slice aM2 o1.mods.length cM2].toArray 35
        rw [e1] at hz7
        have hbn : Below w6.heap.size w6 ((w6.alloc (.cells [.slice ab2 nb2 cb2, .int .u64 m1.nv, .slice ah2 m1.homes.length ch2, .slice as2 m1.seats.length cs2, .int .u64 m1.ns, .int .u64 m1.sweeps].toArray 27)).alloc (.cells [.int .i64 o1.code, .int .u64 o1.session, .int .u64 o1.validity, .slice aU2 o1.uids.length cU2, .slice aM2 o1.mods.length cM2].toArray 35)) := ((Below.refl _ _).alloc (Nat.le_refl _) _).alloc (by simp) _
        change Code.wp _ _ _ _ ((w6.alloc (.cells [.slice ab2 nb2 cb2, .int .u64 m1.nv, .slice ah2 m1.homes.length ch2, .slice as2 m1.seats.length cs2, .int .u64 m1.ns, .int .u64 m1.sweeps].toArray 27)).alloc (.cells [.int .i64 o1.code, .int .u64 o1.session, .int .u64 o1.validity, .slice aU2 o1.uids.length cU2, .slice aM2 o1.mods.length cM2].toArray 35))
        have hinD := Lib.hid (hvD.out.below hbn)
        have hoDD := Lib.hid (hoD.out.below hbn)
        have hs7 := Lib.hid ((hs.out.below hb6.out).below hbn)
        have hO7 := Lib.hid ((hO.out.below hb6.out).below hbn)
        clear hvD hoD e1 hb6 hbn hz hs hO
        generalize ((w6.alloc (.cells [.slice ab2 nb2 cb2, .int .u64 m1.nv, .slice ah2 m1.homes.length ch2, .slice as2 m1.seats.length cs2, .int .u64 m1.ns, .int .u64 m1.sweeps].toArray 27)).alloc (.cells [.int .i64 o1.code, .int .u64 o1.session, .int .u64 o1.validity, .slice aU2 o1.uids.length cU2, .slice aM2 o1.mods.length cM2].toArray 35)) = w7 at hz7 hinD hoDD hs7 hO7 ⊢
        generalize w6.heap.size = TB at hz7 ⊢
        replace hz7 := Lib.hid hz7
        have hun := open_uids (m := m1) (q := q) p5x.out
        rw [hag.out] at hun
        obtain ⟨hbO, -⟩ := hz7.out.box (B := OB) (C := [.int .i64 o1.code, .int .u64 o1.session, .int .u64 o1.validity, .slice aU1 o1.uids.length cU1, .slice aM1 o1.mods.length cM1].toArray) (t := 35) 2 rfl
        obtain ⟨hbP, -⟩ := hz7.out.box (B := TB + 1) (C := [.int .i64 o1.code, .int .u64 o1.session, .int .u64 o1.validity, .slice aU2 o1.uids.length cU2, .slice aM2 o1.mods.length cM2].toArray) (t := 35) 0 rfl
        have o0 : w7.cell? ⟨OB, 0, none⟩ = some (.int .i64 o1.code) := box_cell hbO 0
        have o1x : w7.cell? ⟨OB, 1, none⟩ = some (.int .u64 o1.session) := box_cell hbO 1
        have o2x : w7.cell? ⟨OB, 2, none⟩ = some (.int .u64 o1.validity) := box_cell hbO 2
        have o3x : w7.cell? ⟨OB, 3, none⟩ = some (.slice aU1 o1.uids.length cU1) := box_cell hbO 3
        have o4x : w7.cell? ⟨OB, 4, none⟩ = some (.slice aM1 o1.mods.length cM1) := box_cell hbO 4
        have p0 : w7.cell? ⟨TB + 1, 0, none⟩ = some (.int .i64 o1.code) := box_cell hbP 0
        have p1 : w7.cell? ⟨TB + 1, 1, none⟩ = some (.int .u64 o1.session) := box_cell hbP 1
        have p2 : w7.cell? ⟨TB + 1, 2, none⟩ = some (.int .u64 o1.validity) := box_cell hbP 2
        have p3 : w7.cell? ⟨TB + 1, 3, none⟩ = some (.slice aU2 o1.uids.length cU2) := box_cell hbP 3
        have p4 : w7.cell? ⟨TB + 1, 4, none⟩ = some (.slice aM2 o1.mods.length cM2) := box_cell hbP 4
        clear hbO hbP
        have hso := Lib.hid (sameOc_yes _ _ hO7.out.now hoDD.out.now (by rw [hun.1]; decide) (by rw [hun.2]; decide))
        clear hun
        go_wp2_with fail
        refine hso.out.mono ?_
        rintro e w8 ⟨rfl, hb8⟩
        dsimp only
        clear o0 o1x o2x o3x o4x p0 p1 p2 p3 p4 hso
        have hz8 := Lib.hid (hz7.out.below hb8.out)
        obtain ⟨hbT, -⟩ := hz8.out.box (B := TB) (C := [.slice ab2 nb2 cb2, .int .u64 m1.nv, .slice ah2 m1.homes.length ch2, .slice as2 m1.seats.length cs2, .int .u64 m1.ns, .int .u64 m1.sweeps].toArray) (t := 27) 1 rfl
        obtain ⟨hbM, -⟩ := hz8.out.box (B := MB) (C := [.slice ab1 nb1 cb1, .int .u64 m1.nv, .slice ah1 m1.homes.length ch1, .slice as1 m1.seats.length cs1, .int .u64 m1.ns, .int .u64 m1.sweeps].toArray) (t := 27) 4 rfl
        have x0 : w8.cell? ⟨MB, 0, none⟩ = some (.slice ab1 nb1 cb1) := box_cell hbM 0
        have x1 : w8.cell? ⟨MB, 1, none⟩ = some (.int .u64 m1.nv) := box_cell hbM 1
        have x2 : w8.cell? ⟨MB, 2, none⟩ = some (.slice ah1 m1.homes.length ch1) := box_cell hbM 2
        have x3 : w8.cell? ⟨MB, 3, none⟩ = some (.slice as1 m1.seats.length cs1) := box_cell hbM 3
        have x4 : w8.cell? ⟨MB, 4, none⟩ = some (.int .u64 m1.ns) := box_cell hbM 4
        have x5 : w8.cell? ⟨MB, 5, none⟩ = some (.int .u64 m1.sweeps) := box_cell hbM 5
        have t0 : w8.cell? ⟨TB, 0, none⟩ = some (.slice ab2 nb2 cb2) := box_cell hbT 0
        have t1 : w8.cell? ⟨TB, 1, none⟩ = some (.int .u64 m1.nv) := box_cell hbT 1
        have t2 : w8.cell? ⟨TB, 2, none⟩ = some (.slice ah2 m1.homes.length ch2) := box_cell hbT 2
        have t3 : w8.cell? ⟨TB, 3, none⟩ = some (.slice as2 m1.seats.length cs2) := box_cell hbT 3
        have t4 : w8.cell? ⟨TB, 4, none⟩ = some (.int .u64 m1.ns) := box_cell hbT 4
        have t5 : w8.cell? ⟨TB, 5, none⟩ = some (.int .u64 m1.sweeps) := box_cell hbT 5
        clear hbT hbM
        have hsm := Lib.hid (same_any_ml _ _ ((hs7.out.below hb8.out).now) ((hinD.out.below hb8.out).now) hr1.out.sameSz)
        go_wp2_with fail
        refine hsm.out.mono ?_
        rintro e w9 ⟨B, rfl, hB, hb9⟩
        obtain rfl : B = true := hB.out (by trivial)
        dsimp only
        have hbF := Lib.hid (hz8.out.below hb9.out).bel
        clear x0 x1 x2 x3 x4 x5 t0 t1 t2 t3 t4 t5 hsm hz8 hz7 hb8 hb9 hs7 hO7 hinD hoDD hB
        go_wp2_with fail
        go_ret
        first | exact ⟨rfl, hbF.out⟩ | (rw [← hMB.out]; exact ⟨rfl, hbF.out⟩)
      · have p5 : (q.op == 1) = false := by rw [beq_eq_false_iff_ne]; exact hop
        have hpast : Hid (o1.code ≠ 16 → Past m1 q.session q.number) := Lib.hid (fun h => by
          have h2 := apply_then (m := m0) q hr0.out hgood.out hop
          rw [hap.out] at h2
          exact h2 h)
        replace hop := Lib.hid hop
        clear hz hs hbO hbR hO o0
        go_wp2_with fail
        clear p1 p2 p3 p3' p5 c0 c9
        have h200 := hl200.out
        go_loopw [10] (fun v10 wr => ∃ (i : Nat) (m2 : Ml), v10 = .int .i64 i ∧ i ≤ l.length ∧ Hid (RightP m2) ∧ Hid (o1.code ≠ 16 → Past m2 q.session q.number) ∧ Hid (On3 W MB RB OB q y m2 [.int .i64 o1.code, .int .u64 o1.session, .int .u64 o1.validity, .slice aU1 o1.uids.length cU1, .slice aM1 o1.mods.length cM1] wr)) (fun v10 _ => l.length - (intOf v10).toNat)
        case atStart => exact ⟨0, m1, rfl, Nat.zero_le _, hr1, hpast, hOn⟩
        case round =>
          clear hr1 hpast hOn hap hr0 hbF
          obtain ⟨i, m2, rfl, hi, hr1, hpast, hOn⟩ := hrel
          obtain ⟨C1, hz, hs⟩ := hOn.out
          clear hOn
          obtain ⟨ab1, cb1, nb1, ah1, ch1, as1, cs1, rfl⟩ := hs.now.shape
          by_cases hlt : i < l.length
          · obtain ⟨b, bo, cap, hv, hbW, hc⟩ := hl0.out.cells_at3 hlt
            injection hv with hv1 hv2 hv3
            subst hv1 hv3
            have hqo2 := hrq.out _ (List.mem_map_of_mem (f := (·.1)) (List.getElem_mem hlt))
            have hqi : ∀ w', Below W.heap.size W w' → RqIn w' l[i].1 l[i].2 := fun w' hb => (hl0.out.below hb).2 _ (List.getElem_mem hlt)
            obtain ⟨r, hq⟩ : ∃ r, l[i].1 = r := ⟨_, rfl⟩
            obtain ⟨z, hy⟩ : ∃ z, l[i].2 = z := ⟨_, rfl⟩
            rw [hq, hy] at hc hqi
            have hqo2 : RqOk r := by rw [← hq]; exact hqo2
            replace hqo2 := Lib.hid hqo2
            replace hqi := Lib.hid hqi
            replace hc := Lib.hid hc
            have hi0 : (0 : Int) ≤ (i : Int) := by omega
            have hi1 : (i : Int) < (l.length : Int) := by omega
            have hMlt : MB < wr.heap.size := (Array.getElem?_eq_some_iff.1 (hz.box (B := MB) (C := [.slice ab1 nb1 cb1, .int .u64 m2.nv, .slice ah1 m2.homes.length ch1, .slice as1 m2.seats.length cs1, .int .u64 m2.ns, .int .u64 m2.sweeps].toArray) (t := 27) 2 rfl).1).1
            have hOlt : OB < wr.heap.size := (Array.getElem?_eq_some_iff.1 (hz.box (B := OB) (C := [.int .i64 o1.code, .int .u64 o1.session, .int .u64 o1.validity, .slice aU1 o1.uids.length cU1, .slice aM1 o1.mods.length cM1].toArray) (t := 35) 0 rfl).1).1
            have hL0 : ∀ b ∈ [MB, OB], b < wr.drew.heap.size := fun b hb => by
              rcases List.mem_cons.1 hb with rfl | hb
              · exact hMlt
              · rw [List.mem_singleton.1 hb]; exact hOlt
            have hzd := Lib.hid hz.drew
            have hsd := Lib.hid (hs.below ((Below.refl _ _).drew))
            replace hL0 := Lib.hid hL0
            have hSn := Lib.hid (And.intro (hzd.out.box (B := MB) (C := [.slice ab1 nb1 cb1, .int .u64 m2.nv, .slice ah1 m2.homes.length ch1, .slice as1 m2.seats.length cs1, .int .u64 m2.ns, .int .u64 m2.sweeps].toArray) (t := 27) 2 rfl).1 hzd.out.bel)
            clear hz hs hq hy hbW hMlt hOlt
            go_upto_region 12 with fail
            refine wp_region_hdP 9 (fun bb w' => Hid (bb = false → w'.heap[MB]? = some (.cells [.slice ab1 nb1 cb1, .int .u64 m2.nv, .slice ah1 m2.homes.length ch1, .slice as1 m2.seats.length cs1, .int .u64 m2.ns, .int .u64 m2.sweeps].toArray 27 (0, 0)) ∧ Below W.heap.size W w')) 10 0 (by kernel_rfl) rfl ⟨by kernel_rfl, by kernel_rfl⟩ (Lib.hid fun _ => hSn.out) (fun hok hS0 => ?_)
            clear hS0
            generalize wr.drew = Wd at *
            refine HdP.take (i := 0) (v := .agg [.slice ab1 nb1 cb1, .int .u64 m2.nv, .slice ah1 m2.homes.length ch1, .slice as1 m2.seats.length cs1, .int .u64 m2.ns, .int .u64 m2.sweeps].toArray) hok rfl (by kernel_rfl) (fun _ _ _ h => h) (by decide) (yields_load_cells 27 (.tmp 3) rfl MB 0 [.slice ab1 nb1 cb1, .int .u64 m2.nv, .slice ah1 m2.homes.length ch1, .slice as1 m2.seats.length cs1, .int .u64 m2.ns, .int .u64 m2.sweeps] (by rfl) Tryz.isAgg27 Tryz.sizeOf27 rfl (fun W hS j v hj => by rw [Nat.zero_add, box_cell ((hS.early (by kernel_rfl)).out rfl).1 j, List.getElem?_toArray]; exact hj)) (Lib.hid fun _ => hSn.out) ?_
            try simp only [List.getElem_toArray, List.getElem_cons_succ, List.getElem_cons_zero, Act.put, List.setIfInBounds_toArray, List.set_cons_zero, List.set_cons_succ]
            refine HdP.take (i := 1) (v := ?tv535) hok rfl (by kernel_rfl) (fun _ _ _ h => h) (by decide) (Or.inl ⟨by rfl, ?ty535⟩) (Lib.hid fun _ => hSn.out) ?tr535
            case ty535 => (intro w hSw; clear hSw; go_simp; (try with_reducible rfl))
            try simp only [List.getElem_toArray, List.getElem_cons_succ, List.getElem_cons_zero, Act.put, List.setIfInBounds_toArray, List.set_cons_zero, List.set_cons_succ]
            refine HdP.take (i := 2) (v := ?tv536) hok rfl (by kernel_rfl) (fun _ _ _ h => h) (by decide) (Or.inl ⟨by rfl, ?ty536⟩) (Lib.hid fun _ => hSn.out) ?tr536
            case ty536 => (intro w hSw; clear hSw; go_simp; (try with_reducible rfl))
            try simp only [List.getElem_toArray, List.getElem_cons_succ, List.getElem_cons_zero, Act.put, List.setIfInBounds_toArray, List.set_cons_zero, List.set_cons_succ]
            refine HdP.take (i := 3) (v := ?tv537) hok rfl (by kernel_rfl) (fun _ _ _ h => h) (by decide) (Or.inl ⟨by rfl, ?ty537⟩) (Lib.hid fun _ => hSn.out) ?tr537
            case ty537 => (intro w hSw; clear hSw; go_simp; (try with_reducible rfl))
            try simp only [List.getElem_toArray, List.getElem_cons_succ, List.getElem_cons_zero, Act.put, List.setIfInBounds_toArray, List.set_cons_zero, List.set_cons_succ]
            refine HdP.take (i := 4) (v := .agg (rqCells r z).toArray) hok rfl (by kernel_rfl) (fun _ _ _ h => h) (by decide) (yields_load_cells 41 (.tmp 96) rfl b (bo + i * 17) (rqCells r z) (by rfl) Tryz.isAgg41 Tryz.sizeOf41 rfl (fun W hS j v hj => hc.out W ((hS.early (by kernel_rfl)).out rfl).2 j v hj)) (Lib.hid fun _ => hSn.out) ?_
            try simp only [List.getElem_toArray, List.getElem_cons_succ, List.getElem_cons_zero, Act.put, List.setIfInBounds_toArray, List.set_cons_zero, List.set_cons_succ]
            refine HdP.one (i := 5) rfl (by kernel_rfl) (fun K hK => ?_)
            go_simp
            refine (apply_any _ hsd.out.now hr1.out.ap (hqi.out Wd hSn.out.2) hqo2.out).mono ?_
            rintro e w5x ⟨v5, o5, rfl, hv5, ho5, hb5⟩
            dsimp only
            obtain ⟨ab3, cb3, nb3, ah3, ch3, as3, cs3, rfl⟩ := hv5.out.now.out_
            have hz5 := hzd.out.below hb5.out
            have hs5 := hv5.out.okL hL0.out
            replace hSn := Lib.hid (And.intro (hz5.box (B := MB) (C := [.slice ab1 nb1 cb1, .int .u64 m2.nv, .slice ah1 m2.homes.length ch1, .slice as1 m2.seats.length cs1, .int .u64 m2.ns, .int .u64 m2.sweeps].toArray) (t := 27) 2 rfl).1 hz5.bel)
            refine hK _ _ (Lib.hid fun _ => hSn.out) ?_
            clear hK K
            try simp only [List.getElem_toArray, List.getElem_cons_succ, List.getElem_cons_zero, Act.put, List.setIfInBounds_toArray, List.set_cons_zero, List.set_cons_succ]
            refine HdP.take (i := 6) (v := ?tv538) hok rfl (by kernel_rfl) (fun _ _ _ h => h) (by decide) (Or.inl ⟨by rfl, ?ty538⟩) (Lib.hid fun _ => hSn.out) ?tr538
            case ty538 => (intro w hSw; clear hSw; go_simp; (try with_reducible rfl))
            try simp only [List.getElem_toArray, List.getElem_cons_succ, List.getElem_cons_zero, Act.put, List.setIfInBounds_toArray, List.set_cons_zero, List.set_cons_succ]
            refine HdP.take (i := 7) (v := ?tv539) hok rfl (by kernel_rfl) (fun _ _ _ h => h) (by decide) (Or.inl ⟨by rfl, ?ty539⟩) (Lib.hid fun _ => hSn.out) ?tr539
            case ty539 => (intro w hSw; clear hSw; go_simp; (try with_reducible rfl))
            try simp only [List.getElem_toArray, List.getElem_cons_succ, List.getElem_cons_zero, Act.put, List.setIfInBounds_toArray, List.set_cons_zero, List.set_cons_succ]
            refine HdP.take (i := 8) (v := ?tv540) hok rfl (by kernel_rfl) (fun _ _ _ h => h) (by decide) (Or.inl ⟨by rfl, ?ty540⟩) (Lib.hid fun _ => hSn.out) ?tr540
            case ty540 => (intro w hSw; clear hSw; go_simp; (try with_reducible rfl))
            try simp only [List.getElem_toArray, List.getElem_cons_succ, List.getElem_cons_zero, Act.put, List.setIfInBounds_toArray, List.set_cons_zero, List.set_cons_succ]
            refine HdP.one (i := 9) rfl (by kernel_rfl) (fun K hK => ?_)
            have hs1 := hz5.boxSome (B := MB) (C := [.slice ab1 nb1 cb1, .int .u64 m2.nv, .slice ah1 m2.homes.length ch1, .slice as1 m2.seats.length cs1, .int .u64 m2.ns, .int .u64 m2.sweeps]) (t := 27) 2 rfl
            refine wp_store_op rfl 27 (.tmp 3) (.tmp 99) rfl MB 0 [.slice ab3 nb3 cb3, .int .u64 (applyM m2 r).1.nv, .slice ah3 (applyM m2 r).1.homes.length ch3, .slice as3 (applyM m2 r).1.seats.length cs3, .int .u64 (applyM m2 r).1.ns, .int .u64 (applyM m2 r).1.sweeps] rfl rfl Tryz.sizeOf27 (al_one6 _ _ _ _ _ _ _ _ _ _ _ _) hs1.1 hs1.2 ?_
            have hz6 := hz5.fillBox (B := MB) (C := [.slice ab1 nb1 cb1, .int .u64 m2.nv, .slice ah1 m2.homes.length ch1, .slice as1 m2.seats.length cs1, .int .u64 m2.ns, .int .u64 m2.sweeps]) (t := 27) 2 rfl [.slice ab3 nb3 cb3, .int .u64 (applyM m2 r).1.nv, .slice ah3 (applyM m2 r).1.homes.length ch3, .slice as3 (applyM m2 r).1.seats.length cs3, .int .u64 (applyM m2 r).1.ns, .int .u64 (applyM m2 r).1.sweeps] rfl
            have hs6 := hs5.setL (B := MB) (.head _) [.slice ab3 nb3 cb3, .int .u64 (applyM m2 r).1.nv, .slice ah3 (applyM m2 r).1.homes.length ch3, .slice as3 (applyM m2 r).1.seats.length cs3, .int .u64 (applyM m2 r).1.ns, .int .u64 (applyM m2 r).1.sweeps]
            have hr6 := Lib.hid (apply_right r hr1.out)
            have hp6 : Hid (o1.code ≠ 16 → Past (applyM m2 r).1 q.session q.number) := Lib.hid (fun h => apply_past r (hpast.out h))
            have hOn6 : Hid (On3 W MB RB OB q y (applyM m2 r).1 [.int .i64 o1.code, .int .u64 o1.session, .int .u64 o1.validity, .slice aU1 o1.uids.length cU1, .slice aM1 o1.mods.length cM1] (w5x.setCells MB 0 [.slice ab3 nb3 cb3, .int .u64 (applyM m2 r).1.nv, .slice ah3 (applyM m2 r).1.homes.length ch3, .slice as3 (applyM m2 r).1.seats.length cs3, .int .u64 (applyM m2 r).1.ns, .int .u64 (applyM m2 r).1.sweeps])) := Lib.hid ⟨_, hz6, hs6⟩
            clear hs1 hz5 hs5 hzd hsd hc hqi hqo2 hz6 hs6 hL0
            generalize w5x.setCells MB 0 [.slice ab3 nb3 cb3, .int .u64 (applyM m2 r).1.nv, .slice ah3 (applyM m2 r).1.homes.length ch3, .slice as3 (applyM m2 r).1.seats.length cs3, .int .u64 (applyM m2 r).1.ns, .int .u64 (applyM m2 r).1.sweeps] = w6x at hOn6 ⊢
            refine hK _ _ (Lib.hid fun h => Bool.noConfusion (h.symm.trans (by kernel_rfl : _ = true))) ?_
            clear hK K hSn
            try simp only [List.getElem_toArray, List.getElem_cons_succ, List.getElem_cons_zero, Act.put, List.setIfInBounds_toArray, List.set_cons_zero, List.set_cons_succ]
            refine HdP.done (by kernel_rfl) ?_
            simp only [List.drop_succ_cons, List.drop_nil, List.drop_zero]
            clear hok hb5 hv5 ho5
            go_wp2_with fail
            go_roundw
            case rel => exact ⟨i + 1, (applyM m2 r).1, by go_num, by omega, hr6, hp6, hOn6⟩
            case measure => simp [intOf] <;> omega
          · obtain rfl : i = l.length := by omega
            replace hz := Lib.hid hz
            replace hs := Lib.hid hs
            obtain ⟨hbM, -⟩ := hz.out.box (B := MB) (C := [.slice ab1 nb1 cb1, .int .u64 m2.nv, .slice ah1 m2.homes.length ch1, .slice as1 m2.seats.length cs1, .int .u64 m2.ns, .int .u64 m2.sweeps].toArray) (t := 27) 2 rfl
            obtain ⟨hbR, -⟩ := hz.out.box (B := RB) (C := (rqCells q y).toArray) (t := 41) 1 rfl
            have x0 : wr.cell? ⟨MB, 0, none⟩ = some (.slice ab1 nb1 cb1) := box_cell hbM 0
            have x1 : wr.cell? ⟨MB, 1, none⟩ = some (.int .u64 m2.nv) := box_cell hbM 1
            have x2 : wr.cell? ⟨MB, 2, none⟩ = some (.slice ah1 m2.homes.length ch1) := box_cell hbM 2
            have x3 : wr.cell? ⟨MB, 3, none⟩ = some (.slice as1 m2.seats.length cs1) := box_cell hbM 3
            have x4 : wr.cell? ⟨MB, 4, none⟩ = some (.int .u64 m2.ns) := box_cell hbM 4
            have x5 : wr.cell? ⟨MB, 5, none⟩ = some (.int .u64 m2.sweeps) := box_cell hbM 5
            have hld := Lib.hid (fun j v (hj : (rqCells q y)[j]? = some v) => (show wr.cell? ⟨RB, 0 + j, none⟩ = some v by rw [Nat.zero_add, box_cell hbR j, List.getElem?_toArray]; exact hj))
            clear hbM hbR
            obtain ⟨⟨m3, o3⟩, hap3⟩ : ∃ r, applyM m2 q = r := ⟨_, rfl⟩
            have hca := apply_any _ hs.out.now hr1.out.ap (hq0.out wr hz.out.bel) hqo.out
            rw [hap3] at hca
            replace hca := Lib.hid hca
            replace hap3 := Lib.hid hap3
            go_upto_region 13 with fail
            go_wp2_with (refine wpList_load_cells rfl 41 (.tmp 4) rfl RB 0 (rqCells q y) (by rfl) Tryz.isAgg41 Tryz.sizeOf41 hld.out ?_)
            refine hca.out.mono ?_
            rintro e w6 ⟨vD, oD, rfl, hvD, hoD, hb6⟩
            dsimp only
            obtain ⟨ab3, cb3, nb3, ah3, ch3, as3, cs3, rfl⟩ := hvD.out.now.out_
            obtain ⟨aU3, cU3, aM3, cM3, rfl⟩ := hoD.out.now.out_
            clear hca hld x0 x1 x2 x3 x4 x5
            go_upto_region 14 with fail
            have e1 : (w6.alloc (.cells [.slice ab3 nb3 cb3, .int .u64 m3.nv, .slice ah3 m3.homes.length ch3, .slice as3 m3.seats.length cs3, .int .u64 m3.ns, .int .u64 m3.sweeps].toArray 27)).heap.size = w6.heap.size + 1 := by simp
            have hz7 := ((hz.out.below hb6.out).newBox [.slice ab3 nb3 cb3, .int .u64 m3.nv, .slice ah3 m3.homes.length ch3, .slice as3 m3.seats.length cs3, .int .u64 m3.ns, .int .u64 m3.sweeps].toArray 27).newBox [.int .i64 o3.code, .int .u64 o3.session, .int .u64 o3.validity, .slice aU3 o3.uids.length cU3, .slice aM3 o3.mods.length cM3].toArray 35
            rw [e1] at hz7
            have hbn : Below w6.heap.size w6 ((w6.alloc (.cells [.slice ab3 nb3 cb3, .int .u64 m3.nv, .slice ah3 m3.homes.length ch3, .slice as3 m3.seats.length cs3, .int .u64 m3.ns, .int .u64 m3.sweeps].toArray 27)).alloc (.cells [.int .i64 o3.code, .int .u64 o3.session, .int .u64 o3.validity, .slice aU3 o3.uids.length cU3, .slice aM3 o3.mods.length cM3].toArray 35)) := ((Below.refl _ _).alloc (Nat.le_refl _) _).alloc (by simp) _
            change Code.wp _ _ _ _ ((w6.alloc (.cells [.slice ab3 nb3 cb3, .int .u64 m3.nv, .slice ah3 m3.homes.length ch3, .slice as3 m3.seats.length cs3, .int .u64 m3.ns, .int .u64 m3.sweeps].toArray 27)).alloc (.cells [.int .i64 o3.code, .int .u64 o3.session, .int .u64 o3.validity, .slice aU3 o3.uids.length cU3, .slice aM3 o3.mods.length cM3].toArray 35))
            have hinD := Lib.hid (hvD.out.below hbn)
            have hs7 := Lib.hid ((hs.out.below hb6.out).below hbn)
            clear hvD hoD e1 hb6 hbn hz hs
            generalize ((w6.alloc (.cells [.slice ab3 nb3 cb3, .int .u64 m3.nv, .slice ah3 m3.homes.length ch3, .slice as3 m3.seats.length cs3, .int .u64 m3.ns, .int .u64 m3.sweeps].toArray 27)).alloc (.cells [.int .i64 o3.code, .int .u64 o3.session, .int .u64 o3.validity, .slice aU3 o3.uids.length cU3, .slice aM3 o3.mods.length cM3].toArray 35)) = w7 at hz7 hinD hs7 ⊢
            generalize w6.heap.size = TB at hz7 ⊢
            replace hz7 := Lib.hid hz7
            obtain ⟨hbO, -⟩ := hz7.out.box (B := OB) (C := [.int .i64 o1.code, .int .u64 o1.session, .int .u64 o1.validity, .slice aU1 o1.uids.length cU1, .slice aM1 o1.mods.length cM1].toArray) (t := 35) 2 rfl
            obtain ⟨hbP, -⟩ := hz7.out.box (B := TB + 1) (C := [.int .i64 o3.code, .int .u64 o3.session, .int .u64 o3.validity, .slice aU3 o3.uids.length cU3, .slice aM3 o3.mods.length cM3].toArray) (t := 35) 0 rfl
            obtain ⟨hbT, -⟩ := hz7.out.box (B := TB) (C := [.slice ab3 nb3 cb3, .int .u64 m3.nv, .slice ah3 m3.homes.length ch3, .slice as3 m3.seats.length cs3, .int .u64 m3.ns, .int .u64 m3.sweeps].toArray) (t := 27) 1 rfl
            obtain ⟨hbM, -⟩ := hz7.out.box (B := MB) (C := [.slice ab1 nb1 cb1, .int .u64 m2.nv, .slice ah1 m2.homes.length ch1, .slice as1 m2.seats.length cs1, .int .u64 m2.ns, .int .u64 m2.sweeps].toArray) (t := 27) 4 rfl
            have p0 : w7.cell? ⟨TB + 1, 0, none⟩ = some (.int .i64 o3.code) := box_cell hbP 0
            have x0 : w7.cell? ⟨MB, 0, none⟩ = some (.slice ab1 nb1 cb1) := box_cell hbM 0
            have x1 : w7.cell? ⟨MB, 1, none⟩ = some (.int .u64 m2.nv) := box_cell hbM 1
            have x2 : w7.cell? ⟨MB, 2, none⟩ = some (.slice ah1 m2.homes.length ch1) := box_cell hbM 2
            have x3 : w7.cell? ⟨MB, 3, none⟩ = some (.slice as1 m2.seats.length cs1) := box_cell hbM 3
            have x4 : w7.cell? ⟨MB, 4, none⟩ = some (.int .u64 m2.ns) := box_cell hbM 4
            have x5 : w7.cell? ⟨MB, 5, none⟩ = some (.int .u64 m2.sweeps) := box_cell hbM 5
            have t0 : w7.cell? ⟨TB, 0, none⟩ = some (.slice ab3 nb3 cb3) := box_cell hbT 0
            have t1 : w7.cell? ⟨TB, 1, none⟩ = some (.int .u64 m3.nv) := box_cell hbT 1
            have t2 : w7.cell? ⟨TB, 2, none⟩ = some (.slice ah3 m3.homes.length ch3) := box_cell hbT 2
            have t3 : w7.cell? ⟨TB, 3, none⟩ = some (.slice as3 m3.seats.length cs3) := box_cell hbT 3
            have t4 : w7.cell? ⟨TB, 4, none⟩ = some (.int .u64 m3.ns) := box_cell hbT 4
            have t5 : w7.cell? ⟨TB, 5, none⟩ = some (.int .u64 m3.sweeps) := box_cell hbT 5
            have hsm := Lib.hid (same_any_ml _ _ hs7.out.now hinD.out.now hr1.out.sameSz)
            have hsd := Lib.hid (show (o3.code = 14 ∨ o3.code = 16) → m2 = m3 from fun h => by
              have h2 := late_same (m := m2) q hgood.out hop.out
              rw [hap3.out] at h2
              exact (h2 h).symm)
            have hnl : Hid (¬ (o3.code = 14 ∨ o3.code = 16) → o1.code = 16) := Lib.hid (fun h => Classical.byContradiction fun h2 => h (by
              have h3 := (past_again (m := m2) q hgood.out hop.out (hpast.out h2)).2
              rw [hap3.out] at h3
              exact h3))
            clear hbO hbP hbT hbM hs7 hinD hap3 hpast hr1
            by_cases h14 : o3.code = 14
            · rw [h14] at p0
              have heq := Lib.hid (hsd.out (.inl h14))
              clear hsd hnl h14
              go_wp2_with fail
              refine hsm.out.mono ?_
              rintro e w8 ⟨B, rfl, hB, hb8⟩
              obtain rfl : B = true := hB.out heq.out
              dsimp only
              have hbF := Lib.hid (hz7.out.below hb8.out).bel
              clear p0 x0 x1 x2 x3 x4 x5 t0 t1 t2 t3 t4 t5 hsm hB hb8 hz7 heq
              go_wp2_with fail
              go_ret
              first | exact ⟨rfl, hbF.out⟩ | (rw [← hMB.out]; exact ⟨rfl, hbF.out⟩)
            by_cases h16 : o3.code = 16
            · rw [h16] at p0
              have heq := Lib.hid (hsd.out (.inr h16))
              clear hsd hnl h16
              go_wp2_with fail
              refine hsm.out.mono ?_
              rintro e w8 ⟨B, rfl, hB, hb8⟩
              obtain rfl : B = true := hB.out heq.out
              dsimp only
              have hbF := Lib.hid (hz7.out.below hb8.out).bel
              clear p0 x0 x1 x2 x3 x4 x5 t0 t1 t2 t3 t4 t5 hsm hB hb8 hz7 heq
              go_wp2_with fail
              go_ret
              first | exact ⟨rfl, hbF.out⟩ | (rw [← hMB.out]; exact ⟨rfl, hbF.out⟩)
            have hc16 := hnl.out (fun h => h.elim h14 h16)
            have g14 : (o3.code == 14) = false := by rw [beq_eq_false_iff_ne]; exact h14
            have g16 : (o3.code == 16) = false := by rw [beq_eq_false_iff_ne]; exact h16
            clear hsd hnl h14 h16
            go_wp2_with fail
            refine hsm.out.mono ?_
            rintro e w8 ⟨B, rfl, hB, hb8⟩
            dsimp only
            have hz8 := Lib.hid (hz7.out.below hb8.out)
            obtain ⟨hbO, -⟩ := hz8.out.box (B := OB) (C := [.int .i64 o1.code, .int .u64 o1.session, .int .u64 o1.validity, .slice aU1 o1.uids.length cU1, .slice aM1 o1.mods.length cM1].toArray) (t := 35) 2 rfl
            have o0 : w8.cell? ⟨OB, 0, none⟩ = some (.int .i64 o1.code) := box_cell hbO 0
            rw [hc16] at o0
            have hbF := Lib.hid hz8.out.bel
            clear hbO p0 x0 x1 x2 x3 x4 x5 t0 t1 t2 t3 t4 t5 hsm hB hb8 hz7 hz8 hc16
            cases B with
            | true =>
              go_wp2_with fail
              go_ret
              first | exact ⟨rfl, hbF.out⟩ | (rw [← hMB.out]; exact ⟨rfl, hbF.out⟩)
            | false =>
              go_wp2_with fail
              go_ret
              first | exact ⟨rfl, hbF.out⟩ | (rw [← hMB.out]; exact ⟨rfl, hbF.out⟩)
end Go.Proofs.YtdobbfjmlnlieaaGreat
