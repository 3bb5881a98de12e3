/- MailApart: walked. (written by tools/gen_MnR.py) -/
import Derived.Test.YtdobbfjmlnlieaaGreatB19
import Derived.Test.YtdobbfjmlnlieaaGreatB27
import Derived.Test.YtdobbfjmlnlieaaGreatB22
namespace Go.Proofs.YtdobbfjmlnlieaaGreat
set_option linter.unusedSimpArgs false
open Go.RowKit
attribute [local go_sem ↓] Go.wp_at_zero Go.wp_at_succ

theorem RqsIn.cells_at2 {W : World} {v : Value} {l : List RqP} (h : RqsIn W v l) {j : Nat} (hj : j < l.length) : ∃ b bo cap, v = .slice (some ⟨b, bo, none⟩) l.length cap ∧ b < W.heap.size ∧
    ∀ W', Below W.heap.size W W' → ∀ r u, (rqCells l[j].1 l[j].2)[r]? = some u → W'.cell? ⟨b, bo + j * 17 + r, none⟩ = some u := by
  obtain ⟨b, bo, cap, hv, -, hbl, hc⟩ := rqT.rd_cells h.1 hj
  refine ⟨b, bo, cap, hv, hbl, fun W' hb r u hu => ?_⟩
  rw [Nat.add_assoc]
  exact (hb.cell (p := ⟨b, bo + (j * 17 + r), none⟩) hbl).trans (hc r u hu)
theorem mem2 {L : List Nat} {a b : Nat} (ha : a ∈ L) (hb : b ∈ L) : ∀ x ∈ [a, b], x ∈ L := fun x hx => by
  rcases List.mem_cons.1 hx with rfl | hx
  · exact ha
  · rw [List.mem_singleton.1 hx]; exact hb
set_option maxRecDepth 100000 in
set_option maxHeartbeats 16000000 in
theorem mailApart_any (v lv : Value) (W : World) (hv : ∃ m : Ml, MlIn W v m) (hl : ∃ l : List RqP, RqsIn W lv l) :
    Calls Tryz.prog 6 #[v, lv] W fun e w' => e = .returned (.bool true) ∧ Below W.heap.size W w' := by
  obtain ⟨m, hin⟩ := hv
  obtain ⟨l, hl⟩ := hl
  obtain ⟨ab_, cb_, nb_, ah_, ch_, as_, cs_, rfl⟩ := hin.out_
  obtain ⟨al, cl, hlv, -⟩ := hl.1
  subst hlv
  have hin0 : Hid (∀ w', Below W.heap.size W w' → MlIn w' (.agg #[.slice ab_ nb_ cb_, .int .u64 m.nv, .slice ah_ m.homes.length ch_, .slice as_ m.seats.length cs_, .int .u64 m.ns, .int .u64 m.sweeps]) m) := Lib.hid (fun w' h => hin.below h)
  have hl0 : Hid (RqsIn W (.slice al l.length cl) l) := Lib.hid hl
  have hll : Hid (∀ w', Below W.heap.size W w' → RqsIn w' (.slice al l.length cl) l) := Lib.hid (fun w' h => hl.below h)
  have hz1 := (Zoo.nil W).newBox [.slice ab_ nb_ cb_, .int .u64 m.nv, .slice ah_ m.homes.length ch_, .slice as_ m.seats.length cs_, .int .u64 m.ns, .int .u64 m.sweeps].toArray 27
  have hlt1 : W.heap.size < (W.alloc (.cells [.slice ab_ nb_ cb_, .int .u64 m.nv, .slice ah_ m.homes.length ch_, .slice as_ m.seats.length cs_, .int .u64 m.ns, .int .u64 m.sweeps].toArray 27)).heap.size := by simp
  have hbd1 : Below W.heap.size W (W.alloc (.cells [.slice ab_ nb_ cb_, .int .u64 m.nv, .slice ah_ m.homes.length ch_, .slice as_ m.seats.length cs_, .int .u64 m.ns, .int .u64 m.sweeps].toArray 27)) := hz1.bel
  have hst1 := (stay_new hin).below hbd1
  generalize hMB : W.heap.size = MB at hz1 hst1 hlt1 hbd1
  generalize hWa : (W.alloc (.cells [.slice ab_ nb_ cb_, .int .u64 m.nv, .slice ah_ m.homes.length ch_, .slice as_ m.seats.length cs_, .int .u64 m.ns, .int .u64 m.sweeps].toArray 27)) = Wa at hz1 hst1 hlt1 hbd1
  replace hz1 := Lib.hid hz1
  replace hst1 := Lib.hid hst1
  replace hbd1 := Lib.hid hbd1
  replace hlt1 := Lib.hid hlt1
  clear hin hl
  go_enter Tryz.func6, Tryz.ntmps6
  go_upto_region 1 with fail
  clear hWa
  rw [← hMB] at hbd1
  replace hMB := Lib.hid hMB
  go_wp2_with fail
  refine (alive_any _).mono ?_
  rintro e w1 ⟨rfl, hb1⟩
  dsimp only
  have hz2 := Lib.hid (hz1.out.below hb1.out)
  have hst2 := Lib.hid (hst1.out.below hb1.out)
  have hlt2 := Lib.hid (Nat.lt_of_lt_of_le hlt1.out hb1.out.size)
  have hbd2 : Hid (Below W.heap.size W w1) := Lib.hid hz2.out.bel
  obtain ⟨hbM, -⟩ := hz2.out.box 0 rfl
  have x0 : w1.cell? ⟨MB, 0, none⟩ = some (.slice ab_ nb_ cb_) := box_cell hbM 0
  have x1 : w1.cell? ⟨MB, 1, none⟩ = some (.int .u64 m.nv) := box_cell hbM 1
  have x2 : w1.cell? ⟨MB, 2, none⟩ = some (.slice ah_ m.homes.length ch_) := box_cell hbM 2
  have x3 : w1.cell? ⟨MB, 3, none⟩ = some (.slice as_ m.seats.length cs_) := box_cell hbM 3
  have x4 : w1.cell? ⟨MB, 4, none⟩ = some (.int .u64 m.ns) := box_cell hbM 4
  have x5 : w1.cell? ⟨MB, 5, none⟩ = some (.int .u64 m.sweeps) := box_cell hbM 5
  clear hbM hz1 hst1 hlt1 hbd1 hb1
  go_wp2_with fail
  refine (light_any _ _ (hin0.out w1 hbd2.out) (hll.out w1 hbd2.out)).mono ?_
  rintro e w2 ⟨rfl, hb2⟩
  dsimp only
  have hz3 := Lib.hid (hz2.out.below hb2.out)
  have hst3 := Lib.hid (hst2.out.below hb2.out)
  have hlt3 := Lib.hid (Nat.lt_of_lt_of_le hlt2.out hb2.out.size)
  have hbd3 : Hid (Below W.heap.size W w2) := Lib.hid hz3.out.bel
  obtain ⟨hbM, -⟩ := hz3.out.box 0 rfl
  clear x0 x1 x2 x3 x4 x5 hb2 hz2 hst2 hlt2 hbd2
  have x0 : w2.cell? ⟨MB, 0, none⟩ = some (.slice ab_ nb_ cb_) := box_cell hbM 0
  have x1 : w2.cell? ⟨MB, 1, none⟩ = some (.int .u64 m.nv) := box_cell hbM 1
  have x2 : w2.cell? ⟨MB, 2, none⟩ = some (.slice ah_ m.homes.length ch_) := box_cell hbM 2
  have x3 : w2.cell? ⟨MB, 3, none⟩ = some (.slice as_ m.seats.length cs_) := box_cell hbM 3
  have x4 : w2.cell? ⟨MB, 4, none⟩ = some (.int .u64 m.ns) := box_cell hbM 4
  have x5 : w2.cell? ⟨MB, 5, none⟩ = some (.int .u64 m.sweeps) := box_cell hbM 5
  clear hbM
  generalize hB : lightB m (l.map (·.1)) = B
  replace hB := Lib.hid hB
  cases B with
  | false =>
    go_wp2_with fail
    refine (alive_any _).mono ?_
    rintro e w3 ⟨rfl, hb3⟩
    dsimp only
    have hbF := Lib.hid (hz3.out.below hb3.out).bel
    clear x0 x1 x2 x3 x4 x5 hz3
    go_wp2_with fail
    go_ret
    first | exact ⟨rfl, hbF.out⟩ | (rw [← hMB.out]; exact ⟨rfl, hbF.out⟩)
  | true =>
    go_wp2_with fail
    refine (begun_any _ (hin0.out w2 hbd3.out) (light_ask hB.out)).mono ?_
    intro e w3 hbr
    obtain ⟨C0, m0, rfl, hr0, hs0, hb3⟩ := hbr.right hst3.out hlt3.out
    obtain ⟨ab0, cb0, nb0, ah0, ch0, as0, cs0, rfl⟩ := hs0.now.shape
    dsimp only
    have hz4 := Lib.hid (hz3.out.below hb3)
    replace hr0 := Lib.hid hr0
    replace hs0 := Lib.hid hs0
    obtain ⟨hbM, -⟩ := hz4.out.box 0 rfl
    clear x0 x1 x2 x3 x4 x5 hbr hz3 hst3 hbd3
    have x0 : w3.cell? ⟨MB, 0, none⟩ = some (.slice ab_ nb_ cb_) := box_cell hbM 0
    have fx0 : w3.frozen? ⟨MB, 0, none⟩ = false := box_free hbM 0
    have x1 : w3.cell? ⟨MB, 1, none⟩ = some (.int .u64 m.nv) := box_cell hbM 1
    have fx1 : w3.frozen? ⟨MB, 1, none⟩ = false := box_free hbM 1
    have x2 : w3.cell? ⟨MB, 2, none⟩ = some (.slice ah_ m.homes.length ch_) := box_cell hbM 2
    have fx2 : w3.frozen? ⟨MB, 2, none⟩ = false := box_free hbM 2
    have x3 : w3.cell? ⟨MB, 3, none⟩ = some (.slice as_ m.seats.length cs_) := box_cell hbM 3
    have fx3 : w3.frozen? ⟨MB, 3, none⟩ = false := box_free hbM 3
    have x4 : w3.cell? ⟨MB, 4, none⟩ = some (.int .u64 m.ns) := box_cell hbM 4
    have fx4 : w3.frozen? ⟨MB, 4, none⟩ = false := box_free hbM 4
    have x5 : w3.cell? ⟨MB, 5, none⟩ = some (.int .u64 m.sweeps) := box_cell hbM 5
    have fx5 : w3.frozen? ⟨MB, 5, none⟩ = false := box_free hbM 5
    have hrq := Lib.hid (light_rq hB.out)
    have hl200 : Hid (l.length ≤ 200) := Lib.hid (by have := (light_parts hB.out).2.2.2.1; rw [List.length_map] at this; exact this)
    have hlt4 := Lib.hid (Nat.lt_of_lt_of_le hlt3.out hb3.size)
    have hzF := hz4.out.fillBox (C := [.slice ab_ nb_ cb_, .int .u64 m.nv, .slice ah_ m.homes.length ch_, .slice as_ m.seats.length cs_, .int .u64 m.ns, .int .u64 m.sweeps]) 0 rfl [.slice ab0 nb0 cb0, .int .u64 m0.nv, .slice ah0 m0.homes.length ch0, .slice as0 m0.seats.length cs0, .int .u64 m0.ns, .int .u64 m0.sweeps] rfl
    have hsF := hs0.out.sets MB [.slice ab0 nb0 cb0, .int .u64 m0.nv, .slice ah0 m0.homes.length ch0, .slice as0 m0.seats.length cs0, .int .u64 m0.ns, .int .u64 m0.sweeps] (fun k hk _ => hk)
    have hkF := KeptB.sets [.slice ab0 nb0 cb0, .int .u64 m0.nv, .slice ah0 m0.homes.length ch0, .slice as0 m0.seats.length cs0, .int .u64 m0.ns, .int .u64 m0.sweeps] 0 (KeptB.refl w3 MB)
    have hlF := Nat.lt_of_lt_of_eq hlt4.out hkF.size.symm
    have hH : HoldsS W MB m0 (w3.setCells MB 0 [.slice ab0 nb0 cb0, .int .u64 m0.nv, .slice ah0 m0.homes.length ch0, .slice as0 m0.seats.length cs0, .int .u64 m0.ns, .int .u64 m0.sweeps]) := ⟨_, hzF, hsF⟩
    simp only [World.setCells, Nat.zero_add] at hH hlF
    replace hH := Lib.hid hH
    replace hlF := Lib.hid hlF
    clear hbM hz4 hs0 hb3 hzF hsF hkF hB hin0 hll hlt3 hlt4
    go_wp2_with fail
    have h200 := hl200.out
    clear x0 x1 x2 x3 x4 x5 fx0 fx1 fx2 fx3 fx4 fx5
    go_loopw [5] (fun v5 wr => ∃ (i : Nat) (m1 : Ml), v5 = .int .i64 i ∧ i ≤ l.length ∧ Hid (RightP m1) ∧ Hid (HoldsS W MB m1 wr)) (fun v5 _ => l.length - (intOf v5).toNat)
    case atStart => exact ⟨0, m0, rfl, Nat.zero_le _, hr0, hH⟩
    case round =>
      clear hr0 hH hlF
      obtain ⟨i, m1, rfl, hi, hr1, hH⟩ := hrel
      by_cases hlt : i < l.length
      · obtain ⟨C1, hz, hs⟩ := hH.out
        clear hH
        obtain ⟨ab1, cb1, nb1, ah1, ch1, as1, cs1, rfl⟩ := hs.now.shape
        obtain ⟨b, bo, cap, hv, hbW, hc⟩ := hl0.out.cells_at2 hlt
        injection hv with hv1 hv2 hv3
        subst hv1 hv3
        have hqo := hrq.out _ (List.mem_map_of_mem (f := (·.1)) (List.getElem_mem hlt))
        have hqi : ∀ w', Below W.heap.size W w' → RqIn w' l[i].1 l[i].2 := fun w' hb => (hl0.out.below hb).2 _ (List.getElem_mem hlt)
        obtain ⟨q, hq⟩ : ∃ q, l[i].1 = q := ⟨_, rfl⟩
        obtain ⟨y, hy⟩ : ∃ y, l[i].2 = y := ⟨_, rfl⟩
        rw [hq, hy] at hc hqi
        have hqo : RqOk q := by rw [← hq]; exact hqo
        have hold := fun (b : Bx) (hb : b ∈ m1.boxes) (hn : b.name ≠ namedOf q) => apart_old q hr1.out hb hn
        have hnew := fun (t : Bx) (ht : t ∈ (applyM m1 q).1.boxes) (hn : (findM m1 t.name).isSome = false) => apart_new q ht hn
        have hr2 := apply_right q hr1.out
        obtain ⟨⟨m2, o2⟩, hap⟩ : ∃ r, applyM m1 q = r := ⟨_, rfl⟩
        rw [hap] at hold hnew hr2
        obtain ⟨nm, hnm⟩ : ∃ nm, namedOf q = nm := ⟨_, rfl⟩
        rw [hnm] at hold hnew
        replace hap := Lib.hid hap
        replace hold := Lib.hid hold
        replace hnew := Lib.hid hnew
        replace hr2 := Lib.hid hr2
        replace hnm := Lib.hid hnm
        replace hqo := Lib.hid hqo
        replace hqi := Lib.hid hqi
        replace hc := Lib.hid hc
        have hi0 : (0 : Int) ≤ (i : Int) := by omega
        have hi1 : (i : Int) < (l.length : Int) := by omega
        have hMlt : MB < wr.heap.size := (Array.getElem?_eq_some_iff.1 (hz.box 0 rfl).1).1
        have hzd := hz.drew
        have sC0 := (hs.below ((Below.refl _ _).drew)).one
        have hL0 : ∀ b ∈ [MB], b < wr.drew.heap.size := fun b hb => by rw [List.mem_singleton.1 hb]; exact hMlt
        have hSn := Lib.hid (And.intro (hzd.box 0 rfl).1 hzd.bel)
        clear hz hs hq hy hbW
        go_upto_region 7 with fail
        go_cut [6] (fun v6 wx => ∃ TB, v6 = .pointer (some ⟨TB, 0, none⟩) ∧ Hid (Ap7 W MB TB m1 m2 wx))
        case first =>
          refine wp_region_hd (fun w' => Hid (w'.heap[MB]? = some (.cells [.slice ab1 nb1 cb1, .int .u64 m1.nv, .slice ah1 m1.homes.length ch1, .slice as1 m1.seats.length cs1, .int .u64 m1.ns, .int .u64 m1.sweeps].toArray 27 (0, 0)) ∧ Below W.heap.size W w')) 12 1 (by kernel_rfl) rfl ⟨by kernel_rfl, by kernel_rfl, by kernel_rfl, by decide⟩ hSn (fun hok hS0 => ?_)
          clear hS0
          generalize wr.drew = Wd at *
          refine Hd.take (i := 0) (v := .agg [.slice ab1 nb1 cb1, .int .u64 m1.nv, .slice ah1 m1.homes.length ch1, .slice as1 m1.seats.length cs1, .int .u64 m1.ns, .int .u64 m1.sweeps].toArray) hok rfl (by kernel_rfl) (fun _ _ _ h => h) (yields_load_cells 27 (.tmp 2) rfl MB 0 [.slice ab1 nb1 cb1, .int .u64 m1.nv, .slice ah1 m1.homes.length ch1, .slice as1 m1.seats.length cs1, .int .u64 m1.ns, .int .u64 m1.sweeps] (by rfl) Tryz.isAgg27 Tryz.sizeOf27 rfl (fun W hS j v hj => by rw [Nat.zero_add, box_cell hS.out.1 j, List.getElem?_toArray]; exact hj)) (by assumption) ?_
          try simp only [List.getElem_toArray, List.getElem_cons_succ, List.getElem_cons_zero, Act.put, List.setIfInBounds_toArray, List.set_cons_zero, List.set_cons_succ]
          refine Hd.take (i := 1) (v := ?tv428) hok rfl (by kernel_rfl) (fun _ _ _ h => h) (Or.inl ⟨by rfl, ?ty428⟩) (by assumption) ?tr428
          case ty428 => (intro w hSw; (try dsimp only at hSw); go_simp; (try with_reducible rfl))
          try simp only [List.getElem_toArray, List.getElem_cons_succ, List.getElem_cons_zero, Act.put, List.setIfInBounds_toArray, List.set_cons_zero, List.set_cons_succ]
          refine Hd.take (i := 2) (v := ?tv429) hok rfl (by kernel_rfl) (fun _ _ _ h => h) (Or.inl ⟨by rfl, ?ty429⟩) (by assumption) ?tr429
          case ty429 => (intro w hSw; (try dsimp only at hSw); go_simp; (try with_reducible rfl))
          try simp only [List.getElem_toArray, List.getElem_cons_succ, List.getElem_cons_zero, Act.put, List.setIfInBounds_toArray, List.set_cons_zero, List.set_cons_succ]
          refine Hd.take (i := 3) (v := ?tv430) hok rfl (by kernel_rfl) (fun _ _ _ h => h) (Or.inl ⟨by rfl, ?ty430⟩) (by assumption) ?tr430
          case ty430 => (intro w hSw; (try dsimp only at hSw); go_simp; (try with_reducible rfl))
          try simp only [List.getElem_toArray, List.getElem_cons_succ, List.getElem_cons_zero, Act.put, List.setIfInBounds_toArray, List.set_cons_zero, List.set_cons_succ]
          refine Hd.take (i := 4) (v := .agg (rqCells q y).toArray) hok rfl (by kernel_rfl) (fun _ _ _ h => h) (yields_load_cells 41 (.tmp 36) rfl b (bo + i * 17) (rqCells q y) (by rfl) Tryz.isAgg41 Tryz.sizeOf41 rfl (fun W hS j v hj => hc.out W hS.out.2 j v hj)) (by assumption) ?_
          try simp only [List.getElem_toArray, List.getElem_cons_succ, List.getElem_cons_zero, Act.put, List.setIfInBounds_toArray, List.set_cons_zero, List.set_cons_succ]
          refine Hd.three (i := 5) (k := 9) (m := 10) rfl rfl rfl (by kernel_rfl) (fun K hK => ?_) (fun K hK => ?_) (fun K hK => ?_)
          · go_simp
            refine (apply_any _ sC0.now hr1.out.ap (hqi.out Wd hzd.bel) hqo.out).mono ?_
            rw [hap.out]
            rintro e w1r ⟨vD, oD, rfl, hvD, hoD, hb_w1r⟩
            dsimp only
            obtain ⟨ab2, cb2, nb2, ah2, ch2, as2, cs2, rfl⟩ := hvD.out.now.out_
            obtain ⟨aU2, cU2, aM2, cM2, rfl⟩ := hoD.out.now.out_
            have hz_w1r := hzd.below hb_w1r.out
            have sC_w1r := sC0.below hb_w1r.out
            have sD_w1r := hvD.out.okL hL0
            have hL_w1r := ltL_below hL0 hb_w1r.out.size
            clear hvD hoD
            have hSn := Lib.hid (And.intro (hz_w1r.box (B := MB) (C := [.slice ab1 nb1 cb1, .int .u64 m1.nv, .slice ah1 m1.homes.length ch1, .slice as1 m1.seats.length cs1, .int .u64 m1.ns, .int .u64 m1.sweeps].toArray) (t := 27) 0 rfl).1 hz_w1r.bel)
            refine hK _ _ hSn ?_
            clear hK K
            try simp only [List.getElem_toArray, List.getElem_cons_succ, List.getElem_cons_zero, Act.put, List.setIfInBounds_toArray, List.set_cons_zero, List.set_cons_succ]
            refine Hd.take (i := 6) (v := ?tv431) hok rfl (by kernel_rfl) (fun _ _ _ h => h) (Or.inl ⟨by rfl, ?ty431⟩) (by assumption) ?tr431
            case ty431 => (intro w hSw; (try dsimp only at hSw); go_simp; (try with_reducible rfl))
            try simp only [List.getElem_toArray, List.getElem_cons_succ, List.getElem_cons_zero, Act.put, List.setIfInBounds_toArray, List.set_cons_zero, List.set_cons_succ]
            refine Hd.take (i := 7) (v := ?tv432) hok rfl (by kernel_rfl) (fun _ _ _ h => h) (Or.inl ⟨by rfl, ?ty432⟩) (by assumption) ?tr432
            case ty432 => (intro w hSw; (try dsimp only at hSw); go_simp; (try with_reducible rfl))
            try simp only [List.getElem_toArray, List.getElem_cons_succ, List.getElem_cons_zero, Act.put, List.setIfInBounds_toArray, List.set_cons_zero, List.set_cons_succ]
            refine Hd.take (i := 8) (v := ?tv433) hok rfl (by kernel_rfl) (fun _ _ _ h => h) (Or.inl ⟨by rfl, ?ty433⟩) (by assumption) ?tr433
            case ty433 => (intro w hSw; (try dsimp only at hSw); go_simp; (try with_reducible rfl))
            try simp only [List.getElem_toArray, List.getElem_cons_succ, List.getElem_cons_zero, Act.put, List.setIfInBounds_toArray, List.set_cons_zero, List.set_cons_succ]
            refine Hd.two (i := 9) (k := 10) rfl rfl (by kernel_rfl) (fun K hK => ?_) (fun K hK => ?_)
            · go_simp
              have hz_w2r := hz_w1r.newBox [.slice none 0 0, .int .u64 0, .slice none 0 0, .slice none 0 0, .int .u64 0, .int .u64 0].toArray 27
              have sC_w2r := sC_w1r.allocL (.cells [.slice none 0 0, .int .u64 0, .slice none 0 0, .slice none 0 0, .int .u64 0, .int .u64 0].toArray 27)
              have hL_w2r := ltL_alloc hL_w1r (.cells [.slice none 0 0, .int .u64 0, .slice none 0 0, .slice none 0 0, .int .u64 0, .int .u64 0].toArray 27)
              have sD_w2r := sD_w1r.allocL (.cells [.slice none 0 0, .int .u64 0, .slice none 0 0, .slice none 0 0, .int .u64 0, .int .u64 0].toArray 27)
              generalize (w1r.alloc (.cells [.slice none 0 0, .int .u64 0, .slice none 0 0, .slice none 0 0, .int .u64 0, .int .u64 0].toArray 27)) = w2r at hz_w2r sC_w2r hL_w2r sD_w2r ⊢
              have hSn := Lib.hid (And.intro (hz_w2r.box (B := MB) (C := [.slice ab1 nb1 cb1, .int .u64 m1.nv, .slice ah1 m1.homes.length ch1, .slice as1 m1.seats.length cs1, .int .u64 m1.ns, .int .u64 m1.sweeps].toArray) (t := 27) 1 rfl).1 hz_w2r.bel)
              refine hK _ _ hSn ?_
              clear hK K
              try simp only [List.getElem_toArray, List.getElem_cons_succ, List.getElem_cons_zero, Act.put, List.setIfInBounds_toArray, List.set_cons_zero, List.set_cons_succ]
              refine Hd.one (i := 10) rfl (by kernel_rfl) (fun K hK => ?_)
              go_simp
              have hz_w3r := hz_w2r.newBox [.int .i64 0, .int .u64 0, .int .u64 0, .slice none 0 0, .slice none 0 0].toArray 35
              have sC_w3r := sC_w2r.allocL (.cells [.int .i64 0, .int .u64 0, .int .u64 0, .slice none 0 0, .slice none 0 0].toArray 35)
              have hL_w3r := ltL_alloc hL_w2r (.cells [.int .i64 0, .int .u64 0, .int .u64 0, .slice none 0 0, .slice none 0 0].toArray 35)
              have sD_w3r := sD_w2r.allocL (.cells [.int .i64 0, .int .u64 0, .int .u64 0, .slice none 0 0, .slice none 0 0].toArray 35)
              generalize (w2r.alloc (.cells [.int .i64 0, .int .u64 0, .int .u64 0, .slice none 0 0, .slice none 0 0].toArray 35)) = w3r at hz_w3r sC_w3r hL_w3r sD_w3r ⊢
              have hSn := Lib.hid (And.intro (hz_w3r.box (B := MB) (C := [.slice ab1 nb1 cb1, .int .u64 m1.nv, .slice ah1 m1.homes.length ch1, .slice as1 m1.seats.length cs1, .int .u64 m1.ns, .int .u64 m1.sweeps].toArray) (t := 27) 2 rfl).1 hz_w3r.bel)
              refine hK _ _ hSn ?_
              clear hK K
              try simp only [List.getElem_toArray, List.getElem_cons_succ, List.getElem_cons_zero, Act.put, List.setIfInBounds_toArray, List.set_cons_zero, List.set_cons_succ]
              refine Hd.one (i := 11) rfl (by kernel_rfl) (fun K hK => ?_)
              have hs1 := hz_w3r.boxSome (C := [.slice none 0 0, .int .u64 0, .slice none 0 0, .slice none 0 0, .int .u64 0, .int .u64 0]) 1 rfl
              refine wp_store_op rfl 27 (.tmp 6) (.tmp 39) rfl (w1r.heap.size) 0 [.slice ab2 nb2 cb2, .int .u64 m2.nv, .slice ah2 m2.homes.length ch2, .slice as2 m2.seats.length cs2, .int .u64 m2.ns, .int .u64 m2.sweeps] rfl rfl Tryz.sizeOf27 (al_one6 _ _ _ _ _ _ _ _ _ _ _ _) hs1.1 hs1.2 ?_
              have hz9 := hz_w3r.fillBox (C := [.slice none 0 0, .int .u64 0, .slice none 0 0, .slice none 0 0, .int .u64 0, .int .u64 0]) 1 rfl [.slice ab2 nb2 cb2, .int .u64 m2.nv, .slice ah2 m2.homes.length ch2, .slice as2 m2.seats.length cs2, .int .u64 m2.ns, .int .u64 m2.sweeps] rfl
              have sC9 := sC_w3r.setL (.tail _ (.head _)) [.slice ab2 nb2 cb2, .int .u64 m2.nv, .slice ah2 m2.homes.length ch2, .slice as2 m2.seats.length cs2, .int .u64 m2.ns, .int .u64 m2.sweeps]
              have sD9 := sD_w3r.setL (.tail _ (.head _)) [.slice ab2 nb2 cb2, .int .u64 m2.nv, .slice ah2 m2.homes.length ch2, .slice as2 m2.seats.length cs2, .int .u64 m2.ns, .int .u64 m2.sweeps]
              generalize w3r.setCells (w1r.heap.size) 0 [.slice ab2 nb2 cb2, .int .u64 m2.nv, .slice ah2 m2.homes.length ch2, .slice as2 m2.seats.length cs2, .int .u64 m2.ns, .int .u64 m2.sweeps] = w9r at hz9 sC9 sD9 ⊢
              have hSn := Lib.hid (And.intro (hz9.box (B := MB) (C := [.slice ab1 nb1 cb1, .int .u64 m1.nv, .slice ah1 m1.homes.length ch1, .slice as1 m1.seats.length cs1, .int .u64 m1.ns, .int .u64 m1.sweeps].toArray) (t := 27) 2 rfl).1 hz9.bel)
              refine hK _ _ hSn ?_
              clear hK K
              try simp only [List.getElem_toArray, List.getElem_cons_succ, List.getElem_cons_zero, Act.put, List.setIfInBounds_toArray, List.set_cons_zero, List.set_cons_succ]
              refine Hd.done (by kernel_rfl) ?_
              simp only [List.drop_succ_cons, List.drop_zero]
              have hs2 := hz9.boxSome (C := [.int .i64 0, .int .u64 0, .int .u64 0, .slice none 0 0, .slice none 0 0]) 0 rfl
              refine wpList_store_cells rfl 35 (.tmp 7) (.tmp 40) rfl (w2r.heap.size) 0 [.int .i64 o2.code, .int .u64 o2.session, .int .u64 o2.validity, .slice aU2 o2.uids.length cU2, .slice aM2 o2.mods.length cM2] rfl rfl Tryz.sizeOf35 (al_one5 _ _ _ _ _ _ _) hs2.1 hs2.2 ?_
              have hzA := hz9.fillBox (C := [.int .i64 0, .int .u64 0, .int .u64 0, .slice none 0 0, .slice none 0 0]) 0 rfl [.int .i64 o2.code, .int .u64 o2.session, .int .u64 o2.validity, .slice aU2 o2.uids.length cU2, .slice aM2 o2.mods.length cM2] rfl
              have sCA := sC9.setL (.head _) [.int .i64 o2.code, .int .u64 o2.session, .int .u64 o2.validity, .slice aU2 o2.uids.length cU2, .slice aM2 o2.mods.length cM2]
              have sDA := sD9.setL (.head _) [.int .i64 o2.code, .int .u64 o2.session, .int .u64 o2.validity, .slice aU2 o2.uids.length cU2, .slice aM2 o2.mods.length cM2]
              generalize w9r.setCells (w2r.heap.size) 0 [.int .i64 o2.code, .int .u64 o2.session, .int .u64 o2.validity, .slice aU2 o2.uids.length cU2, .slice aM2 o2.mods.length cM2] = wAr at hzA sCA sDA ⊢
              have hrel : Hid (Ap7 W MB (w1r.heap.size) m1 m2 wAr) := Lib.hid ⟨_, _, hzA.sub (List.Sublist.cons _ (List.Sublist.refl _)), sCA.lessL (mem2 (.tail _ (.tail _ (.head _))) (.tail _ (.head _))), sDA.lessL (mem2 (.tail _ (.tail _ (.head _))) (.tail _ (.head _)))⟩
              clear hs1 hs2 hz9 sC9 sD9 hzA sCA sDA
              go_wp2_with fail
              go_meet
              case rel => exact ⟨w1r.heap.size, rfl, hrel⟩
            · go_simp
              have hz_w4r := hz_w1r.newBox [.int .i64 0, .int .u64 0, .int .u64 0, .slice none 0 0, .slice none 0 0].toArray 35
              have sC_w4r := sC_w1r.allocL (.cells [.int .i64 0, .int .u64 0, .int .u64 0, .slice none 0 0, .slice none 0 0].toArray 35)
              have hL_w4r := ltL_alloc hL_w1r (.cells [.int .i64 0, .int .u64 0, .int .u64 0, .slice none 0 0, .slice none 0 0].toArray 35)
              have sD_w4r := sD_w1r.allocL (.cells [.int .i64 0, .int .u64 0, .int .u64 0, .slice none 0 0, .slice none 0 0].toArray 35)
              generalize (w1r.alloc (.cells [.int .i64 0, .int .u64 0, .int .u64 0, .slice none 0 0, .slice none 0 0].toArray 35)) = w4r at hz_w4r sC_w4r hL_w4r sD_w4r ⊢
              have hSn := Lib.hid (And.intro (hz_w4r.box (B := MB) (C := [.slice ab1 nb1 cb1, .int .u64 m1.nv, .slice ah1 m1.homes.length ch1, .slice as1 m1.seats.length cs1, .int .u64 m1.ns, .int .u64 m1.sweeps].toArray) (t := 27) 1 rfl).1 hz_w4r.bel)
              refine hK _ _ hSn ?_
              clear hK K
              try simp only [List.getElem_toArray, List.getElem_cons_succ, List.getElem_cons_zero, Act.put, List.setIfInBounds_toArray, List.set_cons_zero, List.set_cons_succ]
              refine Hd.one (i := 9) rfl (by kernel_rfl) (fun K hK => ?_)
              go_simp
              have hz_w5r := hz_w4r.newBox [.slice none 0 0, .int .u64 0, .slice none 0 0, .slice none 0 0, .int .u64 0, .int .u64 0].toArray 27
              have sC_w5r := sC_w4r.allocL (.cells [.slice none 0 0, .int .u64 0, .slice none 0 0, .slice none 0 0, .int .u64 0, .int .u64 0].toArray 27)
              have hL_w5r := ltL_alloc hL_w4r (.cells [.slice none 0 0, .int .u64 0, .slice none 0 0, .slice none 0 0, .int .u64 0, .int .u64 0].toArray 27)
              have sD_w5r := sD_w4r.allocL (.cells [.slice none 0 0, .int .u64 0, .slice none 0 0, .slice none 0 0, .int .u64 0, .int .u64 0].toArray 27)
              generalize (w4r.alloc (.cells [.slice none 0 0, .int .u64 0, .slice none 0 0, .slice none 0 0, .int .u64 0, .int .u64 0].toArray 27)) = w5r at hz_w5r sC_w5r hL_w5r sD_w5r ⊢
              have hSn := Lib.hid (And.intro (hz_w5r.box (B := MB) (C := [.slice ab1 nb1 cb1, .int .u64 m1.nv, .slice ah1 m1.homes.length ch1, .slice as1 m1.seats.length cs1, .int .u64 m1.ns, .int .u64 m1.sweeps].toArray) (t := 27) 2 rfl).1 hz_w5r.bel)
              refine hK _ _ hSn ?_
              clear hK K
              try simp only [List.getElem_toArray, List.getElem_cons_succ, List.getElem_cons_zero, Act.put, List.setIfInBounds_toArray, List.set_cons_zero, List.set_cons_succ]
              refine Hd.one (i := 11) rfl (by kernel_rfl) (fun K hK => ?_)
              have hs1 := hz_w5r.boxSome (C := [.slice none 0 0, .int .u64 0, .slice none 0 0, .slice none 0 0, .int .u64 0, .int .u64 0]) 0 rfl
              refine wp_store_op rfl 27 (.tmp 6) (.tmp 39) rfl (w4r.heap.size) 0 [.slice ab2 nb2 cb2, .int .u64 m2.nv, .slice ah2 m2.homes.length ch2, .slice as2 m2.seats.length cs2, .int .u64 m2.ns, .int .u64 m2.sweeps] rfl rfl Tryz.sizeOf27 (al_one6 _ _ _ _ _ _ _ _ _ _ _ _) hs1.1 hs1.2 ?_
              have hz9 := hz_w5r.fillBox (C := [.slice none 0 0, .int .u64 0, .slice none 0 0, .slice none 0 0, .int .u64 0, .int .u64 0]) 0 rfl [.slice ab2 nb2 cb2, .int .u64 m2.nv, .slice ah2 m2.homes.length ch2, .slice as2 m2.seats.length cs2, .int .u64 m2.ns, .int .u64 m2.sweeps] rfl
              have sC9 := sC_w5r.setL (.head _) [.slice ab2 nb2 cb2, .int .u64 m2.nv, .slice ah2 m2.homes.length ch2, .slice as2 m2.seats.length cs2, .int .u64 m2.ns, .int .u64 m2.sweeps]
              have sD9 := sD_w5r.setL (.head _) [.slice ab2 nb2 cb2, .int .u64 m2.nv, .slice ah2 m2.homes.length ch2, .slice as2 m2.seats.length cs2, .int .u64 m2.ns, .int .u64 m2.sweeps]
              generalize w5r.setCells (w4r.heap.size) 0 [.slice ab2 nb2 cb2, .int .u64 m2.nv, .slice ah2 m2.homes.length ch2, .slice as2 m2.seats.length cs2, .int .u64 m2.ns, .int .u64 m2.sweeps] = w9r at hz9 sC9 sD9 ⊢
              have hSn := Lib.hid (And.intro (hz9.box (B := MB) (C := [.slice ab1 nb1 cb1, .int .u64 m1.nv, .slice ah1 m1.homes.length ch1, .slice as1 m1.seats.length cs1, .int .u64 m1.ns, .int .u64 m1.sweeps].toArray) (t := 27) 2 rfl).1 hz9.bel)
              refine hK _ _ hSn ?_
              clear hK K
              try simp only [List.getElem_toArray, List.getElem_cons_succ, List.getElem_cons_zero, Act.put, List.setIfInBounds_toArray, List.set_cons_zero, List.set_cons_succ]
              refine Hd.done (by kernel_rfl) ?_
              simp only [List.drop_succ_cons, List.drop_zero]
              have hs2 := hz9.boxSome (C := [.int .i64 0, .int .u64 0, .int .u64 0, .slice none 0 0, .slice none 0 0]) 1 rfl
              refine wpList_store_cells rfl 35 (.tmp 7) (.tmp 40) rfl (w1r.heap.size) 0 [.int .i64 o2.code, .int .u64 o2.session, .int .u64 o2.validity, .slice aU2 o2.uids.length cU2, .slice aM2 o2.mods.length cM2] rfl rfl Tryz.sizeOf35 (al_one5 _ _ _ _ _ _ _) hs2.1 hs2.2 ?_
              have hzA := hz9.fillBox (C := [.int .i64 0, .int .u64 0, .int .u64 0, .slice none 0 0, .slice none 0 0]) 1 rfl [.int .i64 o2.code, .int .u64 o2.session, .int .u64 o2.validity, .slice aU2 o2.uids.length cU2, .slice aM2 o2.mods.length cM2] rfl
              have sCA := sC9.setL (.tail _ (.head _)) [.int .i64 o2.code, .int .u64 o2.session, .int .u64 o2.validity, .slice aU2 o2.uids.length cU2, .slice aM2 o2.mods.length cM2]
              have sDA := sD9.setL (.tail _ (.head _)) [.int .i64 o2.code, .int .u64 o2.session, .int .u64 o2.validity, .slice aU2 o2.uids.length cU2, .slice aM2 o2.mods.length cM2]
              generalize w9r.setCells (w1r.heap.size) 0 [.int .i64 o2.code, .int .u64 o2.session, .int .u64 o2.validity, .slice aU2 o2.uids.length cU2, .slice aM2 o2.mods.length cM2] = wAr at hzA sCA sDA ⊢
              have hrel : Hid (Ap7 W MB (w4r.heap.size) m1 m2 wAr) := Lib.hid ⟨_, _, hzA.sub (List.Sublist.cons_cons _ (List.Sublist.cons _ (List.Sublist.refl _))), sCA.lessL (mem2 (.tail _ (.tail _ (.head _))) (.head _)), sDA.lessL (mem2 (.tail _ (.tail _ (.head _))) (.head _))⟩
              clear hs1 hs2 hz9 sC9 sD9 hzA sCA sDA
              go_wp2_with fail
              go_meet
              case rel => exact ⟨w4r.heap.size, rfl, hrel⟩
          · go_simp
            have hz_w6r := hzd.newBox [.slice none 0 0, .int .u64 0, .slice none 0 0, .slice none 0 0, .int .u64 0, .int .u64 0].toArray 27
            have sC_w6r := sC0.allocL (.cells [.slice none 0 0, .int .u64 0, .slice none 0 0, .slice none 0 0, .int .u64 0, .int .u64 0].toArray 27)
            have hL_w6r := ltL_alloc hL0 (.cells [.slice none 0 0, .int .u64 0, .slice none 0 0, .slice none 0 0, .int .u64 0, .int .u64 0].toArray 27)
            generalize (Wd.alloc (.cells [.slice none 0 0, .int .u64 0, .slice none 0 0, .slice none 0 0, .int .u64 0, .int .u64 0].toArray 27)) = w6r at hz_w6r sC_w6r hL_w6r ⊢
            have hSn := Lib.hid (And.intro (hz_w6r.box (B := MB) (C := [.slice ab1 nb1 cb1, .int .u64 m1.nv, .slice ah1 m1.homes.length ch1, .slice as1 m1.seats.length cs1, .int .u64 m1.ns, .int .u64 m1.sweeps].toArray) (t := 27) 1 rfl).1 hz_w6r.bel)
            refine hK _ _ hSn ?_
            clear hK K
            try simp only [List.getElem_toArray, List.getElem_cons_succ, List.getElem_cons_zero, Act.put, List.setIfInBounds_toArray, List.set_cons_zero, List.set_cons_succ]
            refine Hd.two (i := 5) (k := 10) rfl rfl (by kernel_rfl) (fun K hK => ?_) (fun K hK => ?_)
            · go_simp
              refine (apply_any _ sC_w6r.now hr1.out.ap (hqi.out w6r hz_w6r.bel) hqo.out).mono ?_
              rw [hap.out]
              rintro e w7r ⟨vD, oD, rfl, hvD, hoD, hb_w7r⟩
              dsimp only
              obtain ⟨ab2, cb2, nb2, ah2, ch2, as2, cs2, rfl⟩ := hvD.out.now.out_
              obtain ⟨aU2, cU2, aM2, cM2, rfl⟩ := hoD.out.now.out_
              have hz_w7r := hz_w6r.below hb_w7r.out
              have sC_w7r := sC_w6r.below hb_w7r.out
              have sD_w7r := hvD.out.okL hL_w6r
              have hL_w7r := ltL_below hL_w6r hb_w7r.out.size
              clear hvD hoD
              have hSn := Lib.hid (And.intro (hz_w7r.box (B := MB) (C := [.slice ab1 nb1 cb1, .int .u64 m1.nv, .slice ah1 m1.homes.length ch1, .slice as1 m1.seats.length cs1, .int .u64 m1.ns, .int .u64 m1.sweeps].toArray) (t := 27) 1 rfl).1 hz_w7r.bel)
              refine hK _ _ hSn ?_
              clear hK K
              try simp only [List.getElem_toArray, List.getElem_cons_succ, List.getElem_cons_zero, Act.put, List.setIfInBounds_toArray, List.set_cons_zero, List.set_cons_succ]
              refine Hd.take (i := 6) (v := ?tv434) hok rfl (by kernel_rfl) (fun _ _ _ h => h) (Or.inl ⟨by rfl, ?ty434⟩) (by assumption) ?tr434
              case ty434 => (intro w hSw; (try dsimp only at hSw); go_simp; (try with_reducible rfl))
              try simp only [List.getElem_toArray, List.getElem_cons_succ, List.getElem_cons_zero, Act.put, List.setIfInBounds_toArray, List.set_cons_zero, List.set_cons_succ]
              refine Hd.take (i := 7) (v := ?tv435) hok rfl (by kernel_rfl) (fun _ _ _ h => h) (Or.inl ⟨by rfl, ?ty435⟩) (by assumption) ?tr435
              case ty435 => (intro w hSw; (try dsimp only at hSw); go_simp; (try with_reducible rfl))
              try simp only [List.getElem_toArray, List.getElem_cons_succ, List.getElem_cons_zero, Act.put, List.setIfInBounds_toArray, List.set_cons_zero, List.set_cons_succ]
              refine Hd.take (i := 8) (v := ?tv436) hok rfl (by kernel_rfl) (fun _ _ _ h => h) (Or.inl ⟨by rfl, ?ty436⟩) (by assumption) ?tr436
              case ty436 => (intro w hSw; (try dsimp only at hSw); go_simp; (try with_reducible rfl))
              try simp only [List.getElem_toArray, List.getElem_cons_succ, List.getElem_cons_zero, Act.put, List.setIfInBounds_toArray, List.set_cons_zero, List.set_cons_succ]
              refine Hd.one (i := 10) rfl (by kernel_rfl) (fun K hK => ?_)
              go_simp
              have hz_w8r := hz_w7r.newBox [.int .i64 0, .int .u64 0, .int .u64 0, .slice none 0 0, .slice none 0 0].toArray 35
              have sC_w8r := sC_w7r.allocL (.cells [.int .i64 0, .int .u64 0, .int .u64 0, .slice none 0 0, .slice none 0 0].toArray 35)
              have hL_w8r := ltL_alloc hL_w7r (.cells [.int .i64 0, .int .u64 0, .int .u64 0, .slice none 0 0, .slice none 0 0].toArray 35)
              have sD_w8r := sD_w7r.allocL (.cells [.int .i64 0, .int .u64 0, .int .u64 0, .slice none 0 0, .slice none 0 0].toArray 35)
              generalize (w7r.alloc (.cells [.int .i64 0, .int .u64 0, .int .u64 0, .slice none 0 0, .slice none 0 0].toArray 35)) = w8r at hz_w8r sC_w8r hL_w8r sD_w8r ⊢
              have hSn := Lib.hid (And.intro (hz_w8r.box (B := MB) (C := [.slice ab1 nb1 cb1, .int .u64 m1.nv, .slice ah1 m1.homes.length ch1, .slice as1 m1.seats.length cs1, .int .u64 m1.ns, .int .u64 m1.sweeps].toArray) (t := 27) 2 rfl).1 hz_w8r.bel)
              refine hK _ _ hSn ?_
              clear hK K
              try simp only [List.getElem_toArray, List.getElem_cons_succ, List.getElem_cons_zero, Act.put, List.setIfInBounds_toArray, List.set_cons_zero, List.set_cons_succ]
              refine Hd.one (i := 11) rfl (by kernel_rfl) (fun K hK => ?_)
              have hs1 := hz_w8r.boxSome (C := [.slice none 0 0, .int .u64 0, .slice none 0 0, .slice none 0 0, .int .u64 0, .int .u64 0]) 1 rfl
              refine wp_store_op rfl 27 (.tmp 6) (.tmp 39) rfl (Wd.heap.size) 0 [.slice ab2 nb2 cb2, .int .u64 m2.nv, .slice ah2 m2.homes.length ch2, .slice as2 m2.seats.length cs2, .int .u64 m2.ns, .int .u64 m2.sweeps] rfl rfl Tryz.sizeOf27 (al_one6 _ _ _ _ _ _ _ _ _ _ _ _) hs1.1 hs1.2 ?_
              have hz9 := hz_w8r.fillBox (C := [.slice none 0 0, .int .u64 0, .slice none 0 0, .slice none 0 0, .int .u64 0, .int .u64 0]) 1 rfl [.slice ab2 nb2 cb2, .int .u64 m2.nv, .slice ah2 m2.homes.length ch2, .slice as2 m2.seats.length cs2, .int .u64 m2.ns, .int .u64 m2.sweeps] rfl
              have sC9 := sC_w8r.setL (.tail _ (.head _)) [.slice ab2 nb2 cb2, .int .u64 m2.nv, .slice ah2 m2.homes.length ch2, .slice as2 m2.seats.length cs2, .int .u64 m2.ns, .int .u64 m2.sweeps]
              have sD9 := sD_w8r.setL (.tail _ (.head _)) [.slice ab2 nb2 cb2, .int .u64 m2.nv, .slice ah2 m2.homes.length ch2, .slice as2 m2.seats.length cs2, .int .u64 m2.ns, .int .u64 m2.sweeps]
              generalize w8r.setCells (Wd.heap.size) 0 [.slice ab2 nb2 cb2, .int .u64 m2.nv, .slice ah2 m2.homes.length ch2, .slice as2 m2.seats.length cs2, .int .u64 m2.ns, .int .u64 m2.sweeps] = w9r at hz9 sC9 sD9 ⊢
              have hSn := Lib.hid (And.intro (hz9.box (B := MB) (C := [.slice ab1 nb1 cb1, .int .u64 m1.nv, .slice ah1 m1.homes.length ch1, .slice as1 m1.seats.length cs1, .int .u64 m1.ns, .int .u64 m1.sweeps].toArray) (t := 27) 2 rfl).1 hz9.bel)
              refine hK _ _ hSn ?_
              clear hK K
              try simp only [List.getElem_toArray, List.getElem_cons_succ, List.getElem_cons_zero, Act.put, List.setIfInBounds_toArray, List.set_cons_zero, List.set_cons_succ]
              refine Hd.done (by kernel_rfl) ?_
              simp only [List.drop_succ_cons, List.drop_zero]
              have hs2 := hz9.boxSome (C := [.int .i64 0, .int .u64 0, .int .u64 0, .slice none 0 0, .slice none 0 0]) 0 rfl
              refine wpList_store_cells rfl 35 (.tmp 7) (.tmp 40) rfl (w7r.heap.size) 0 [.int .i64 o2.code, .int .u64 o2.session, .int .u64 o2.validity, .slice aU2 o2.uids.length cU2, .slice aM2 o2.mods.length cM2] rfl rfl Tryz.sizeOf35 (al_one5 _ _ _ _ _ _ _) hs2.1 hs2.2 ?_
              have hzA := hz9.fillBox (C := [.int .i64 0, .int .u64 0, .int .u64 0, .slice none 0 0, .slice none 0 0]) 0 rfl [.int .i64 o2.code, .int .u64 o2.session, .int .u64 o2.validity, .slice aU2 o2.uids.length cU2, .slice aM2 o2.mods.length cM2] rfl
              have sCA := sC9.setL (.head _) [.int .i64 o2.code, .int .u64 o2.session, .int .u64 o2.validity, .slice aU2 o2.uids.length cU2, .slice aM2 o2.mods.length cM2]
              have sDA := sD9.setL (.head _) [.int .i64 o2.code, .int .u64 o2.session, .int .u64 o2.validity, .slice aU2 o2.uids.length cU2, .slice aM2 o2.mods.length cM2]
              generalize w9r.setCells (w7r.heap.size) 0 [.int .i64 o2.code, .int .u64 o2.session, .int .u64 o2.validity, .slice aU2 o2.uids.length cU2, .slice aM2 o2.mods.length cM2] = wAr at hzA sCA sDA ⊢
              have hrel : Hid (Ap7 W MB (Wd.heap.size) m1 m2 wAr) := Lib.hid ⟨_, _, hzA.sub (List.Sublist.cons _ (List.Sublist.refl _)), sCA.lessL (mem2 (.tail _ (.tail _ (.head _))) (.tail _ (.head _))), sDA.lessL (mem2 (.tail _ (.tail _ (.head _))) (.tail _ (.head _)))⟩
              clear hs1 hs2 hz9 sC9 sD9 hzA sCA sDA
              go_wp2_with fail
              go_meet
              case rel => exact ⟨Wd.heap.size, rfl, hrel⟩
            · go_simp
              have hz_w9r := hz_w6r.newBox [.int .i64 0, .int .u64 0, .int .u64 0, .slice none 0 0, .slice none 0 0].toArray 35
              have sC_w9r := sC_w6r.allocL (.cells [.int .i64 0, .int .u64 0, .int .u64 0, .slice none 0 0, .slice none 0 0].toArray 35)
              have hL_w9r := ltL_alloc hL_w6r (.cells [.int .i64 0, .int .u64 0, .int .u64 0, .slice none 0 0, .slice none 0 0].toArray 35)
              generalize (w6r.alloc (.cells [.int .i64 0, .int .u64 0, .int .u64 0, .slice none 0 0, .slice none 0 0].toArray 35)) = w9r at hz_w9r sC_w9r hL_w9r ⊢
              have hSn := Lib.hid (And.intro (hz_w9r.box (B := MB) (C := [.slice ab1 nb1 cb1, .int .u64 m1.nv, .slice ah1 m1.homes.length ch1, .slice as1 m1.seats.length cs1, .int .u64 m1.ns, .int .u64 m1.sweeps].toArray) (t := 27) 2 rfl).1 hz_w9r.bel)
              refine hK _ _ hSn ?_
              clear hK K
              try simp only [List.getElem_toArray, List.getElem_cons_succ, List.getElem_cons_zero, Act.put, List.setIfInBounds_toArray, List.set_cons_zero, List.set_cons_succ]
              refine Hd.one (i := 5) rfl (by kernel_rfl) (fun K hK => ?_)
              go_simp
              refine (apply_any _ sC_w9r.now hr1.out.ap (hqi.out w9r hz_w9r.bel) hqo.out).mono ?_
              rw [hap.out]
              rintro e w10r ⟨vD, oD, rfl, hvD, hoD, hb_w10r⟩
              dsimp only
              obtain ⟨ab2, cb2, nb2, ah2, ch2, as2, cs2, rfl⟩ := hvD.out.now.out_
              obtain ⟨aU2, cU2, aM2, cM2, rfl⟩ := hoD.out.now.out_
              have hz_w10r := hz_w9r.below hb_w10r.out
              have sC_w10r := sC_w9r.below hb_w10r.out
              have sD_w10r := hvD.out.okL hL_w9r
              have hL_w10r := ltL_below hL_w9r hb_w10r.out.size
              clear hvD hoD
              have hSn := Lib.hid (And.intro (hz_w10r.box (B := MB) (C := [.slice ab1 nb1 cb1, .int .u64 m1.nv, .slice ah1 m1.homes.length ch1, .slice as1 m1.seats.length cs1, .int .u64 m1.ns, .int .u64 m1.sweeps].toArray) (t := 27) 2 rfl).1 hz_w10r.bel)
              refine hK _ _ hSn ?_
              clear hK K
              try simp only [List.getElem_toArray, List.getElem_cons_succ, List.getElem_cons_zero, Act.put, List.setIfInBounds_toArray, List.set_cons_zero, List.set_cons_succ]
              refine Hd.take (i := 6) (v := ?tv437) hok rfl (by kernel_rfl) (fun _ _ _ h => h) (Or.inl ⟨by rfl, ?ty437⟩) (by assumption) ?tr437
              case ty437 => (intro w hSw; (try dsimp only at hSw); go_simp; (try with_reducible rfl))
              try simp only [List.getElem_toArray, List.getElem_cons_succ, List.getElem_cons_zero, Act.put, List.setIfInBounds_toArray, List.set_cons_zero, List.set_cons_succ]
              refine Hd.take (i := 7) (v := ?tv438) hok rfl (by kernel_rfl) (fun _ _ _ h => h) (Or.inl ⟨by rfl, ?ty438⟩) (by assumption) ?tr438
              case ty438 => (intro w hSw; (try dsimp only at hSw); go_simp; (try with_reducible rfl))
              try simp only [List.getElem_toArray, List.getElem_cons_succ, List.getElem_cons_zero, Act.put, List.setIfInBounds_toArray, List.set_cons_zero, List.set_cons_succ]
              refine Hd.take (i := 8) (v := ?tv439) hok rfl (by kernel_rfl) (fun _ _ _ h => h) (Or.inl ⟨by rfl, ?ty439⟩) (by assumption) ?tr439
              case ty439 => (intro w hSw; (try dsimp only at hSw); go_simp; (try with_reducible rfl))
              try simp only [List.getElem_toArray, List.getElem_cons_succ, List.getElem_cons_zero, Act.put, List.setIfInBounds_toArray, List.set_cons_zero, List.set_cons_succ]
              refine Hd.one (i := 11) rfl (by kernel_rfl) (fun K hK => ?_)
              have hs1 := hz_w10r.boxSome (C := [.slice none 0 0, .int .u64 0, .slice none 0 0, .slice none 0 0, .int .u64 0, .int .u64 0]) 1 rfl
              refine wp_store_op rfl 27 (.tmp 6) (.tmp 39) rfl (Wd.heap.size) 0 [.slice ab2 nb2 cb2, .int .u64 m2.nv, .slice ah2 m2.homes.length ch2, .slice as2 m2.seats.length cs2, .int .u64 m2.ns, .int .u64 m2.sweeps] rfl rfl Tryz.sizeOf27 (al_one6 _ _ _ _ _ _ _ _ _ _ _ _) hs1.1 hs1.2 ?_
              have hz9 := hz_w10r.fillBox (C := [.slice none 0 0, .int .u64 0, .slice none 0 0, .slice none 0 0, .int .u64 0, .int .u64 0]) 1 rfl [.slice ab2 nb2 cb2, .int .u64 m2.nv, .slice ah2 m2.homes.length ch2, .slice as2 m2.seats.length cs2, .int .u64 m2.ns, .int .u64 m2.sweeps] rfl
              have sC9 := sC_w10r.setL (.tail _ (.head _)) [.slice ab2 nb2 cb2, .int .u64 m2.nv, .slice ah2 m2.homes.length ch2, .slice as2 m2.seats.length cs2, .int .u64 m2.ns, .int .u64 m2.sweeps]
              have sD9 := sD_w10r.setL (.tail _ (.head _)) [.slice ab2 nb2 cb2, .int .u64 m2.nv, .slice ah2 m2.homes.length ch2, .slice as2 m2.seats.length cs2, .int .u64 m2.ns, .int .u64 m2.sweeps]
              generalize w10r.setCells (Wd.heap.size) 0 [.slice ab2 nb2 cb2, .int .u64 m2.nv, .slice ah2 m2.homes.length ch2, .slice as2 m2.seats.length cs2, .int .u64 m2.ns, .int .u64 m2.sweeps] = w9r at hz9 sC9 sD9 ⊢
              have hSn := Lib.hid (And.intro (hz9.box (B := MB) (C := [.slice ab1 nb1 cb1, .int .u64 m1.nv, .slice ah1 m1.homes.length ch1, .slice as1 m1.seats.length cs1, .int .u64 m1.ns, .int .u64 m1.sweeps].toArray) (t := 27) 2 rfl).1 hz9.bel)
              refine hK _ _ hSn ?_
              clear hK K
              try simp only [List.getElem_toArray, List.getElem_cons_succ, List.getElem_cons_zero, Act.put, List.setIfInBounds_toArray, List.set_cons_zero, List.set_cons_succ]
              refine Hd.done (by kernel_rfl) ?_
              simp only [List.drop_succ_cons, List.drop_zero]
              have hs2 := hz9.boxSome (C := [.int .i64 0, .int .u64 0, .int .u64 0, .slice none 0 0, .slice none 0 0]) 0 rfl
              refine wpList_store_cells rfl 35 (.tmp 7) (.tmp 40) rfl (w6r.heap.size) 0 [.int .i64 o2.code, .int .u64 o2.session, .int .u64 o2.validity, .slice aU2 o2.uids.length cU2, .slice aM2 o2.mods.length cM2] rfl rfl Tryz.sizeOf35 (al_one5 _ _ _ _ _ _ _) hs2.1 hs2.2 ?_
              have hzA := hz9.fillBox (C := [.int .i64 0, .int .u64 0, .int .u64 0, .slice none 0 0, .slice none 0 0]) 0 rfl [.int .i64 o2.code, .int .u64 o2.session, .int .u64 o2.validity, .slice aU2 o2.uids.length cU2, .slice aM2 o2.mods.length cM2] rfl
              have sCA := sC9.setL (.head _) [.int .i64 o2.code, .int .u64 o2.session, .int .u64 o2.validity, .slice aU2 o2.uids.length cU2, .slice aM2 o2.mods.length cM2]
              have sDA := sD9.setL (.head _) [.int .i64 o2.code, .int .u64 o2.session, .int .u64 o2.validity, .slice aU2 o2.uids.length cU2, .slice aM2 o2.mods.length cM2]
              generalize w9r.setCells (w6r.heap.size) 0 [.int .i64 o2.code, .int .u64 o2.session, .int .u64 o2.validity, .slice aU2 o2.uids.length cU2, .slice aM2 o2.mods.length cM2] = wAr at hzA sCA sDA ⊢
              have hrel : Hid (Ap7 W MB (Wd.heap.size) m1 m2 wAr) := Lib.hid ⟨_, _, hzA.sub (List.Sublist.cons _ (List.Sublist.refl _)), sCA.lessL (mem2 (.tail _ (.tail _ (.head _))) (.tail _ (.head _))), sDA.lessL (mem2 (.tail _ (.tail _ (.head _))) (.tail _ (.head _)))⟩
              clear hs1 hs2 hz9 sC9 sD9 hzA sCA sDA
              go_wp2_with fail
              go_meet
              case rel => exact ⟨Wd.heap.size, rfl, hrel⟩
          · go_simp
            have hz_w11r := hzd.newBox [.int .i64 0, .int .u64 0, .int .u64 0, .slice none 0 0, .slice none 0 0].toArray 35
            have sC_w11r := sC0.allocL (.cells [.int .i64 0, .int .u64 0, .int .u64 0, .slice none 0 0, .slice none 0 0].toArray 35)
            have hL_w11r := ltL_alloc hL0 (.cells [.int .i64 0, .int .u64 0, .int .u64 0, .slice none 0 0, .slice none 0 0].toArray 35)
            generalize (Wd.alloc (.cells [.int .i64 0, .int .u64 0, .int .u64 0, .slice none 0 0, .slice none 0 0].toArray 35)) = w11r at hz_w11r sC_w11r hL_w11r ⊢
            have hSn := Lib.hid (And.intro (hz_w11r.box (B := MB) (C := [.slice ab1 nb1 cb1, .int .u64 m1.nv, .slice ah1 m1.homes.length ch1, .slice as1 m1.seats.length cs1, .int .u64 m1.ns, .int .u64 m1.sweeps].toArray) (t := 27) 1 rfl).1 hz_w11r.bel)
            refine hK _ _ hSn ?_
            clear hK K
            try simp only [List.getElem_toArray, List.getElem_cons_succ, List.getElem_cons_zero, Act.put, List.setIfInBounds_toArray, List.set_cons_zero, List.set_cons_succ]
            refine Hd.two (i := 5) (k := 9) rfl rfl (by kernel_rfl) (fun K hK => ?_) (fun K hK => ?_)
            · go_simp
              refine (apply_any _ sC_w11r.now hr1.out.ap (hqi.out w11r hz_w11r.bel) hqo.out).mono ?_
              rw [hap.out]
              rintro e w12r ⟨vD, oD, rfl, hvD, hoD, hb_w12r⟩
              dsimp only
              obtain ⟨ab2, cb2, nb2, ah2, ch2, as2, cs2, rfl⟩ := hvD.out.now.out_
              obtain ⟨aU2, cU2, aM2, cM2, rfl⟩ := hoD.out.now.out_
              have hz_w12r := hz_w11r.below hb_w12r.out
              have sC_w12r := sC_w11r.below hb_w12r.out
              have sD_w12r := hvD.out.okL hL_w11r
              have hL_w12r := ltL_below hL_w11r hb_w12r.out.size
              clear hvD hoD
              have hSn := Lib.hid (And.intro (hz_w12r.box (B := MB) (C := [.slice ab1 nb1 cb1, .int .u64 m1.nv, .slice ah1 m1.homes.length ch1, .slice as1 m1.seats.length cs1, .int .u64 m1.ns, .int .u64 m1.sweeps].toArray) (t := 27) 1 rfl).1 hz_w12r.bel)
              refine hK _ _ hSn ?_
              clear hK K
              try simp only [List.getElem_toArray, List.getElem_cons_succ, List.getElem_cons_zero, Act.put, List.setIfInBounds_toArray, List.set_cons_zero, List.set_cons_succ]
              refine Hd.take (i := 6) (v := ?tv440) hok rfl (by kernel_rfl) (fun _ _ _ h => h) (Or.inl ⟨by rfl, ?ty440⟩) (by assumption) ?tr440
              case ty440 => (intro w hSw; (try dsimp only at hSw); go_simp; (try with_reducible rfl))
              try simp only [List.getElem_toArray, List.getElem_cons_succ, List.getElem_cons_zero, Act.put, List.setIfInBounds_toArray, List.set_cons_zero, List.set_cons_succ]
              refine Hd.take (i := 7) (v := ?tv441) hok rfl (by kernel_rfl) (fun _ _ _ h => h) (Or.inl ⟨by rfl, ?ty441⟩) (by assumption) ?tr441
              case ty441 => (intro w hSw; (try dsimp only at hSw); go_simp; (try with_reducible rfl))
              try simp only [List.getElem_toArray, List.getElem_cons_succ, List.getElem_cons_zero, Act.put, List.setIfInBounds_toArray, List.set_cons_zero, List.set_cons_succ]
              refine Hd.take (i := 8) (v := ?tv442) hok rfl (by kernel_rfl) (fun _ _ _ h => h) (Or.inl ⟨by rfl, ?ty442⟩) (by assumption) ?tr442
              case ty442 => (intro w hSw; (try dsimp only at hSw); go_simp; (try with_reducible rfl))
              try simp only [List.getElem_toArray, List.getElem_cons_succ, List.getElem_cons_zero, Act.put, List.setIfInBounds_toArray, List.set_cons_zero, List.set_cons_succ]
              refine Hd.one (i := 9) rfl (by kernel_rfl) (fun K hK => ?_)
              go_simp
              have hz_w13r := hz_w12r.newBox [.slice none 0 0, .int .u64 0, .slice none 0 0, .slice none 0 0, .int .u64 0, .int .u64 0].toArray 27
              have sC_w13r := sC_w12r.allocL (.cells [.slice none 0 0, .int .u64 0, .slice none 0 0, .slice none 0 0, .int .u64 0, .int .u64 0].toArray 27)
              have hL_w13r := ltL_alloc hL_w12r (.cells [.slice none 0 0, .int .u64 0, .slice none 0 0, .slice none 0 0, .int .u64 0, .int .u64 0].toArray 27)
              have sD_w13r := sD_w12r.allocL (.cells [.slice none 0 0, .int .u64 0, .slice none 0 0, .slice none 0 0, .int .u64 0, .int .u64 0].toArray 27)
              generalize (w12r.alloc (.cells [.slice none 0 0, .int .u64 0, .slice none 0 0, .slice none 0 0, .int .u64 0, .int .u64 0].toArray 27)) = w13r at hz_w13r sC_w13r hL_w13r sD_w13r ⊢
              have hSn := Lib.hid (And.intro (hz_w13r.box (B := MB) (C := [.slice ab1 nb1 cb1, .int .u64 m1.nv, .slice ah1 m1.homes.length ch1, .slice as1 m1.seats.length cs1, .int .u64 m1.ns, .int .u64 m1.sweeps].toArray) (t := 27) 2 rfl).1 hz_w13r.bel)
              refine hK _ _ hSn ?_
              clear hK K
              try simp only [List.getElem_toArray, List.getElem_cons_succ, List.getElem_cons_zero, Act.put, List.setIfInBounds_toArray, List.set_cons_zero, List.set_cons_succ]
              refine Hd.one (i := 11) rfl (by kernel_rfl) (fun K hK => ?_)
              have hs1 := hz_w13r.boxSome (C := [.slice none 0 0, .int .u64 0, .slice none 0 0, .slice none 0 0, .int .u64 0, .int .u64 0]) 0 rfl
              refine wp_store_op rfl 27 (.tmp 6) (.tmp 39) rfl (w12r.heap.size) 0 [.slice ab2 nb2 cb2, .int .u64 m2.nv, .slice ah2 m2.homes.length ch2, .slice as2 m2.seats.length cs2, .int .u64 m2.ns, .int .u64 m2.sweeps] rfl rfl Tryz.sizeOf27 (al_one6 _ _ _ _ _ _ _ _ _ _ _ _) hs1.1 hs1.2 ?_
              have hz9 := hz_w13r.fillBox (C := [.slice none 0 0, .int .u64 0, .slice none 0 0, .slice none 0 0, .int .u64 0, .int .u64 0]) 0 rfl [.slice ab2 nb2 cb2, .int .u64 m2.nv, .slice ah2 m2.homes.length ch2, .slice as2 m2.seats.length cs2, .int .u64 m2.ns, .int .u64 m2.sweeps] rfl
              have sC9 := sC_w13r.setL (.head _) [.slice ab2 nb2 cb2, .int .u64 m2.nv, .slice ah2 m2.homes.length ch2, .slice as2 m2.seats.length cs2, .int .u64 m2.ns, .int .u64 m2.sweeps]
              have sD9 := sD_w13r.setL (.head _) [.slice ab2 nb2 cb2, .int .u64 m2.nv, .slice ah2 m2.homes.length ch2, .slice as2 m2.seats.length cs2, .int .u64 m2.ns, .int .u64 m2.sweeps]
              generalize w13r.setCells (w12r.heap.size) 0 [.slice ab2 nb2 cb2, .int .u64 m2.nv, .slice ah2 m2.homes.length ch2, .slice as2 m2.seats.length cs2, .int .u64 m2.ns, .int .u64 m2.sweeps] = w9r at hz9 sC9 sD9 ⊢
              have hSn := Lib.hid (And.intro (hz9.box (B := MB) (C := [.slice ab1 nb1 cb1, .int .u64 m1.nv, .slice ah1 m1.homes.length ch1, .slice as1 m1.seats.length cs1, .int .u64 m1.ns, .int .u64 m1.sweeps].toArray) (t := 27) 2 rfl).1 hz9.bel)
              refine hK _ _ hSn ?_
              clear hK K
              try simp only [List.getElem_toArray, List.getElem_cons_succ, List.getElem_cons_zero, Act.put, List.setIfInBounds_toArray, List.set_cons_zero, List.set_cons_succ]
              refine Hd.done (by kernel_rfl) ?_
              simp only [List.drop_succ_cons, List.drop_zero]
              have hs2 := hz9.boxSome (C := [.int .i64 0, .int .u64 0, .int .u64 0, .slice none 0 0, .slice none 0 0]) 1 rfl
              refine wpList_store_cells rfl 35 (.tmp 7) (.tmp 40) rfl (Wd.heap.size) 0 [.int .i64 o2.code, .int .u64 o2.session, .int .u64 o2.validity, .slice aU2 o2.uids.length cU2, .slice aM2 o2.mods.length cM2] rfl rfl Tryz.sizeOf35 (al_one5 _ _ _ _ _ _ _) hs2.1 hs2.2 ?_
              have hzA := hz9.fillBox (C := [.int .i64 0, .int .u64 0, .int .u64 0, .slice none 0 0, .slice none 0 0]) 1 rfl [.int .i64 o2.code, .int .u64 o2.session, .int .u64 o2.validity, .slice aU2 o2.uids.length cU2, .slice aM2 o2.mods.length cM2] rfl
              have sCA := sC9.setL (.tail _ (.head _)) [.int .i64 o2.code, .int .u64 o2.session, .int .u64 o2.validity, .slice aU2 o2.uids.length cU2, .slice aM2 o2.mods.length cM2]
              have sDA := sD9.setL (.tail _ (.head _)) [.int .i64 o2.code, .int .u64 o2.session, .int .u64 o2.validity, .slice aU2 o2.uids.length cU2, .slice aM2 o2.mods.length cM2]
              generalize w9r.setCells (Wd.heap.size) 0 [.int .i64 o2.code, .int .u64 o2.session, .int .u64 o2.validity, .slice aU2 o2.uids.length cU2, .slice aM2 o2.mods.length cM2] = wAr at hzA sCA sDA ⊢
              have hrel : Hid (Ap7 W MB (w12r.heap.size) m1 m2 wAr) := Lib.hid ⟨_, _, hzA.sub (List.Sublist.cons_cons _ (List.Sublist.cons _ (List.Sublist.refl _))), sCA.lessL (mem2 (.tail _ (.tail _ (.head _))) (.head _)), sDA.lessL (mem2 (.tail _ (.tail _ (.head _))) (.head _))⟩
              clear hs1 hs2 hz9 sC9 sD9 hzA sCA sDA
              go_wp2_with fail
              go_meet
              case rel => exact ⟨w12r.heap.size, rfl, hrel⟩
            · go_simp
              have hz_w14r := hz_w11r.newBox [.slice none 0 0, .int .u64 0, .slice none 0 0, .slice none 0 0, .int .u64 0, .int .u64 0].toArray 27
              have sC_w14r := sC_w11r.allocL (.cells [.slice none 0 0, .int .u64 0, .slice none 0 0, .slice none 0 0, .int .u64 0, .int .u64 0].toArray 27)
              have hL_w14r := ltL_alloc hL_w11r (.cells [.slice none 0 0, .int .u64 0, .slice none 0 0, .slice none 0 0, .int .u64 0, .int .u64 0].toArray 27)
              generalize (w11r.alloc (.cells [.slice none 0 0, .int .u64 0, .slice none 0 0, .slice none 0 0, .int .u64 0, .int .u64 0].toArray 27)) = w14r at hz_w14r sC_w14r hL_w14r ⊢
              have hSn := Lib.hid (And.intro (hz_w14r.box (B := MB) (C := [.slice ab1 nb1 cb1, .int .u64 m1.nv, .slice ah1 m1.homes.length ch1, .slice as1 m1.seats.length cs1, .int .u64 m1.ns, .int .u64 m1.sweeps].toArray) (t := 27) 2 rfl).1 hz_w14r.bel)
              refine hK _ _ hSn ?_
              clear hK K
              try simp only [List.getElem_toArray, List.getElem_cons_succ, List.getElem_cons_zero, Act.put, List.setIfInBounds_toArray, List.set_cons_zero, List.set_cons_succ]
              refine Hd.one (i := 5) rfl (by kernel_rfl) (fun K hK => ?_)
              go_simp
              refine (apply_any _ sC_w14r.now hr1.out.ap (hqi.out w14r hz_w14r.bel) hqo.out).mono ?_
              rw [hap.out]
              rintro e w15r ⟨vD, oD, rfl, hvD, hoD, hb_w15r⟩
              dsimp only
              obtain ⟨ab2, cb2, nb2, ah2, ch2, as2, cs2, rfl⟩ := hvD.out.now.out_
              obtain ⟨aU2, cU2, aM2, cM2, rfl⟩ := hoD.out.now.out_
              have hz_w15r := hz_w14r.below hb_w15r.out
              have sC_w15r := sC_w14r.below hb_w15r.out
              have sD_w15r := hvD.out.okL hL_w14r
              have hL_w15r := ltL_below hL_w14r hb_w15r.out.size
              clear hvD hoD
              have hSn := Lib.hid (And.intro (hz_w15r.box (B := MB) (C := [.slice ab1 nb1 cb1, .int .u64 m1.nv, .slice ah1 m1.homes.length ch1, .slice as1 m1.seats.length cs1, .int .u64 m1.ns, .int .u64 m1.sweeps].toArray) (t := 27) 2 rfl).1 hz_w15r.bel)
              refine hK _ _ hSn ?_
              clear hK K
              try simp only [List.getElem_toArray, List.getElem_cons_succ, List.getElem_cons_zero, Act.put, List.setIfInBounds_toArray, List.set_cons_zero, List.set_cons_succ]
              refine Hd.take (i := 6) (v := ?tv443) hok rfl (by kernel_rfl) (fun _ _ _ h => h) (Or.inl ⟨by rfl, ?ty443⟩) (by assumption) ?tr443
              case ty443 => (intro w hSw; (try dsimp only at hSw); go_simp; (try with_reducible rfl))
              try simp only [List.getElem_toArray, List.getElem_cons_succ, List.getElem_cons_zero, Act.put, List.setIfInBounds_toArray, List.set_cons_zero, List.set_cons_succ]
              refine Hd.take (i := 7) (v := ?tv444) hok rfl (by kernel_rfl) (fun _ _ _ h => h) (Or.inl ⟨by rfl, ?ty444⟩) (by assumption) ?tr444
              case ty444 => (intro w hSw; (try dsimp only at hSw); go_simp; (try with_reducible rfl))
              try simp only [List.getElem_toArray, List.getElem_cons_succ, List.getElem_cons_zero, Act.put, List.setIfInBounds_toArray, List.set_cons_zero, List.set_cons_succ]
              refine Hd.take (i := 8) (v := ?tv445) hok rfl (by kernel_rfl) (fun _ _ _ h => h) (Or.inl ⟨by rfl, ?ty445⟩) (by assumption) ?tr445
              case ty445 => (intro w hSw; (try dsimp only at hSw); go_simp; (try with_reducible rfl))
              try simp only [List.getElem_toArray, List.getElem_cons_succ, List.getElem_cons_zero, Act.put, List.setIfInBounds_toArray, List.set_cons_zero, List.set_cons_succ]
              refine Hd.one (i := 11) rfl (by kernel_rfl) (fun K hK => ?_)
              have hs1 := hz_w15r.boxSome (C := [.slice none 0 0, .int .u64 0, .slice none 0 0, .slice none 0 0, .int .u64 0, .int .u64 0]) 0 rfl
              refine wp_store_op rfl 27 (.tmp 6) (.tmp 39) rfl (w11r.heap.size) 0 [.slice ab2 nb2 cb2, .int .u64 m2.nv, .slice ah2 m2.homes.length ch2, .slice as2 m2.seats.length cs2, .int .u64 m2.ns, .int .u64 m2.sweeps] rfl rfl Tryz.sizeOf27 (al_one6 _ _ _ _ _ _ _ _ _ _ _ _) hs1.1 hs1.2 ?_
              have hz9 := hz_w15r.fillBox (C := [.slice none 0 0, .int .u64 0, .slice none 0 0, .slice none 0 0, .int .u64 0, .int .u64 0]) 0 rfl [.slice ab2 nb2 cb2, .int .u64 m2.nv, .slice ah2 m2.homes.length ch2, .slice as2 m2.seats.length cs2, .int .u64 m2.ns, .int .u64 m2.sweeps] rfl
              have sC9 := sC_w15r.setL (.head _) [.slice ab2 nb2 cb2, .int .u64 m2.nv, .slice ah2 m2.homes.length ch2, .slice as2 m2.seats.length cs2, .int .u64 m2.ns, .int .u64 m2.sweeps]
              have sD9 := sD_w15r.setL (.head _) [.slice ab2 nb2 cb2, .int .u64 m2.nv, .slice ah2 m2.homes.length ch2, .slice as2 m2.seats.length cs2, .int .u64 m2.ns, .int .u64 m2.sweeps]
              generalize w15r.setCells (w11r.heap.size) 0 [.slice ab2 nb2 cb2, .int .u64 m2.nv, .slice ah2 m2.homes.length ch2, .slice as2 m2.seats.length cs2, .int .u64 m2.ns, .int .u64 m2.sweeps] = w9r at hz9 sC9 sD9 ⊢
              have hSn := Lib.hid (And.intro (hz9.box (B := MB) (C := [.slice ab1 nb1 cb1, .int .u64 m1.nv, .slice ah1 m1.homes.length ch1, .slice as1 m1.seats.length cs1, .int .u64 m1.ns, .int .u64 m1.sweeps].toArray) (t := 27) 2 rfl).1 hz9.bel)
              refine hK _ _ hSn ?_
              clear hK K
              try simp only [List.getElem_toArray, List.getElem_cons_succ, List.getElem_cons_zero, Act.put, List.setIfInBounds_toArray, List.set_cons_zero, List.set_cons_succ]
              refine Hd.done (by kernel_rfl) ?_
              simp only [List.drop_succ_cons, List.drop_zero]
              have hs2 := hz9.boxSome (C := [.int .i64 0, .int .u64 0, .int .u64 0, .slice none 0 0, .slice none 0 0]) 1 rfl
              refine wpList_store_cells rfl 35 (.tmp 7) (.tmp 40) rfl (Wd.heap.size) 0 [.int .i64 o2.code, .int .u64 o2.session, .int .u64 o2.validity, .slice aU2 o2.uids.length cU2, .slice aM2 o2.mods.length cM2] rfl rfl Tryz.sizeOf35 (al_one5 _ _ _ _ _ _ _) hs2.1 hs2.2 ?_
              have hzA := hz9.fillBox (C := [.int .i64 0, .int .u64 0, .int .u64 0, .slice none 0 0, .slice none 0 0]) 1 rfl [.int .i64 o2.code, .int .u64 o2.session, .int .u64 o2.validity, .slice aU2 o2.uids.length cU2, .slice aM2 o2.mods.length cM2] rfl
              have sCA := sC9.setL (.tail _ (.head _)) [.int .i64 o2.code, .int .u64 o2.session, .int .u64 o2.validity, .slice aU2 o2.uids.length cU2, .slice aM2 o2.mods.length cM2]
              have sDA := sD9.setL (.tail _ (.head _)) [.int .i64 o2.code, .int .u64 o2.session, .int .u64 o2.validity, .slice aU2 o2.uids.length cU2, .slice aM2 o2.mods.length cM2]
              generalize w9r.setCells (Wd.heap.size) 0 [.int .i64 o2.code, .int .u64 o2.session, .int .u64 o2.validity, .slice aU2 o2.uids.length cU2, .slice aM2 o2.mods.length cM2] = wAr at hzA sCA sDA ⊢
              have hrel : Hid (Ap7 W MB (w11r.heap.size) m1 m2 wAr) := Lib.hid ⟨_, _, hzA.sub (List.Sublist.cons_cons _ (List.Sublist.cons _ (List.Sublist.refl _))), sCA.lessL (mem2 (.tail _ (.tail _ (.head _))) (.head _)), sDA.lessL (mem2 (.tail _ (.tail _ (.head _))) (.head _))⟩
              clear hs1 hs2 hz9 sC9 sD9 hzA sCA sDA
              go_wp2_with fail
              go_meet
              case rel => exact ⟨w11r.heap.size, rfl, hrel⟩
        case rest =>
        obtain ⟨TB, rfl, hA⟩ := hcut
        generalize wc = w6 at *
        clear hzd sC0 hL0 hSn
        have hcw : Hid (∀ w', Ap7 W MB TB m1 m2 w' → w'.cell? ⟨b, bo + i * 17, none⟩ = some (.int .i64 q.op) ∧ w'.cell? ⟨b, bo + i * 17 + 6, none⟩ = some (.string q.box) ∧ w'.cell? ⟨b, bo + i * 17 + 7, none⟩ = some (.string q.to_)) := Lib.hid (fun w' h => by
          obtain ⟨_, _, hz, -, -⟩ := h
          exact ⟨hc.out w' hz.bel 0 _ rfl, hc.out w' hz.bel 6 _ rfl, hc.out w' hz.bel 7 _ rfl⟩)
        obtain ⟨c0, c6, c7⟩ := hcw.out w6 hA.out
        go_upto_if 51 with fail
        go_cut [8] (fun v8 wx => v8 = .string nm ∧ wx = w6)
        case first =>
          cases hop : (q.op == 9) with
          | true =>
            obtain rfl : q.to_ = nm := by rw [← hnm.out]; unfold namedOf; rw [if_pos (eq_of_beq hop)]
            go_wp2_with fail
            go_meet
            case rel => exact ⟨rfl, rfl⟩
          | false =>
            obtain rfl : q.box = nm := by rw [← hnm.out]; unfold namedOf; rw [if_neg (by simpa using hop)]
            go_wp2_with fail
            go_meet
            case rel => exact ⟨rfl, rfl⟩
        case rest =>
        obtain ⟨rfl, rfl⟩ := hcut
        clear c0 c6 c7
        have hsz := Lib.hid hr2.out.sized
        go_wp2_with fail
        go_loopw [9] (fun v9 wr => ∃ k : Nat, v9 = .int .i64 k ∧ k ≤ m1.boxes.length ∧ Hid (Ap7 W MB TB m1 m2 wr)) (fun v9 _ => m1.boxes.length - (intOf v9).toNat)
        case atStart => exact ⟨0, rfl, Nat.zero_le _, hA⟩
        case round =>
          clear hA
          obtain ⟨k, rfl, hk, hA⟩ := hrel
          have l8 := hr1.out.lb
          obtain ⟨C1, D1, hz, sC, sD⟩ := hA.out
          obtain ⟨ab1, cb1, nb1, ah1, ch1, as1, cs1, rfl⟩ := sC.now.shape
          obtain ⟨ab2, cb2, nb2, ah2, ch2, as2, cs2, rfl⟩ := sD.now.shape
          obtain rfl := sC.now.nb
          obtain ⟨hbM, -⟩ := hz.box (B := MB) (C := [.slice ab1 m1.boxes.length cb1, .int .u64 m1.nv, .slice ah1 m1.homes.length ch1, .slice as1 m1.seats.length cs1, .int .u64 m1.ns, .int .u64 m1.sweeps].toArray) (t := 27) 1 rfl
          have x0 : wr.cell? ⟨MB, 0, none⟩ = some (.slice ab1 m1.boxes.length cb1) := box_cell hbM 0
          by_cases hlk : k < m1.boxes.length
          · obtain ⟨xb, xo, z, e, hzb, hrow⟩ := sC.now.box_at hlk
            subst e
            have hk0 : (0 : Int) ≤ (k : Int) := by omega
            have hk1 : (k : Int) < (m1.boxes.length : Int) := by omega
            have hBm := hr1.out.boxes _ (List.getElem_mem hlk)
            have hfnd : Hid (z.name ≠ nm → findM m2 z.name = some z.b) := Lib.hid (fun h => by
              have e1 : z.name = m1.boxes[k].name := congrArg Bx.name hzb
              rw [hzb, e1]
              exact hold.out _ (List.getElem_mem hlk) (by rw [← e1]; exact h))
            rw [← hzb] at hBm
            replace hBm := Lib.hid hBm
            replace hrow := Lib.hid hrow
            obtain ⟨hbT, -⟩ := hz.box (B := TB) (C := [.slice ab2 nb2 cb2, .int .u64 m2.nv, .slice ah2 m2.homes.length ch2, .slice as2 m2.seats.length cs2, .int .u64 m2.ns, .int .u64 m2.sweeps].toArray) (t := 27) 0 rfl
            have hcl : Hid (∀ w', Below wr.heap.size wr w' → w'.cell? ⟨TB, 0, none⟩ = some (.slice ab2 nb2 cb2) ∧ w'.cell? ⟨TB, 1, none⟩ = some (.int .u64 m2.nv) ∧ w'.cell? ⟨TB, 2, none⟩ = some (.slice ah2 m2.homes.length ch2) ∧ w'.cell? ⟨TB, 3, none⟩ = some (.slice as2 m2.seats.length cs2) ∧ w'.cell? ⟨TB, 4, none⟩ = some (.int .u64 m2.ns) ∧ w'.cell? ⟨TB, 5, none⟩ = some (.int .u64 m2.sweeps) ∧ w'.cell? ⟨MB, 0, none⟩ = some (.slice (some ⟨xb, xo, none⟩) m1.boxes.length cb1) ∧ w'.cell? ⟨xb, xo + k * 5, none⟩ = some (.string z.name)) := Lib.hid (fun w' h => ⟨box_cell (bel_heap h hbT) 0, box_cell (bel_heap h hbT) 1, box_cell (bel_heap h hbT) 2, box_cell (bel_heap h hbT) 3, box_cell (bel_heap h hbT) 4, box_cell (bel_heap h hbT) 5, box_cell (bel_heap h hbM) 0, (hrow.out w' h).1.1⟩)
            have hsDl := Lib.hid (fun (w' : World) (h : Below wr.heap.size wr w') => (sD.below h).now)
            have hbd : Below wr.heap.size wr wr.drew := (Below.refl _ _).drew
            have hb0 := Below.refl wr.drew.heap.size wr.drew
            clear hbM hbT hzb sC sD hz
            go_upto_region 14 with fail
            clear x0
            go_cut [10, 11] (fun v10 v11 wx => ∃ (FB : Nat) (zf : BxV), v10 = .pointer (some ⟨FB, 0, none⟩) ∧ v11 = .bool (findM m2 z.name).isSome ∧ Hid (Fd wr m2 z.name FB zf wx))
            case first =>
              refine wp_region_hd (fun w' => w'.cell? ⟨TB, 0, none⟩ = some (.slice ab2 nb2 cb2) ∧ w'.cell? ⟨TB, 1, none⟩ = some (.int .u64 m2.nv) ∧ w'.cell? ⟨TB, 2, none⟩ = some (.slice ah2 m2.homes.length ch2) ∧ w'.cell? ⟨TB, 3, none⟩ = some (.slice as2 m2.seats.length cs2) ∧ w'.cell? ⟨TB, 4, none⟩ = some (.int .u64 m2.ns) ∧ w'.cell? ⟨TB, 5, none⟩ = some (.int .u64 m2.sweeps) ∧ w'.cell? ⟨MB, 0, none⟩ = some (.slice (some ⟨xb, xo, none⟩) m1.boxes.length cb1) ∧ w'.cell? ⟨xb, xo + k * 5, none⟩ = some (.string z.name)) 13 1 (by kernel_rfl) rfl ⟨by kernel_rfl, by kernel_rfl, by kernel_rfl, by decide⟩ (hcl.out _ hbd) (fun hok hS0 => ?_)
              generalize wr.drew = Wd at *
              refine Hd.take (i := 0) (v := ?tv446) hok rfl (by kernel_rfl) (fun _ _ _ h => h) (Or.inl ⟨by rfl, ?ty446⟩) (by assumption) ?tr446
              case ty446 => (intro w hSw; (try dsimp only at hSw); go_simp; (try with_reducible rfl))
              try simp only [List.getElem_toArray, List.getElem_cons_succ, List.getElem_cons_zero, Act.put, List.setIfInBounds_toArray, List.set_cons_zero, List.set_cons_succ]
              refine Hd.take (i := 1) (v := ?tv447) hok rfl (by kernel_rfl) (fun _ _ _ h => h) (Or.inl ⟨by rfl, ?ty447⟩) (by assumption) ?tr447
              case ty447 => (intro w hSw; (try dsimp only at hSw); go_simp; (try with_reducible rfl))
              try simp only [List.getElem_toArray, List.getElem_cons_succ, List.getElem_cons_zero, Act.put, List.setIfInBounds_toArray, List.set_cons_zero, List.set_cons_succ]
              refine Hd.take (i := 2) (v := ?tv448) hok rfl (by kernel_rfl) (fun _ _ _ h => h) (Or.inl ⟨by rfl, ?ty448⟩) (by assumption) ?tr448
              case ty448 => (intro w hSw; (try dsimp only at hSw); go_simp; (try with_reducible rfl))
              try simp only [List.getElem_toArray, List.getElem_cons_succ, List.getElem_cons_zero, Act.put, List.setIfInBounds_toArray, List.set_cons_zero, List.set_cons_succ]
              refine Hd.take (i := 3) (v := ?tv449) hok rfl (by kernel_rfl) (fun _ _ _ h => h) (Or.inl ⟨by rfl, ?ty449⟩) (by assumption) ?tr449
              case ty449 => (intro w hSw; (try dsimp only at hSw); go_simp; (try with_reducible rfl))
              try simp only [List.getElem_toArray, List.getElem_cons_succ, List.getElem_cons_zero, Act.put, List.setIfInBounds_toArray, List.set_cons_zero, List.set_cons_succ]
              refine Hd.take (i := 4) (v := ?tv450) hok rfl (by kernel_rfl) (fun _ _ _ h => h) (Or.inl ⟨by rfl, ?ty450⟩) (by assumption) ?tr450
              case ty450 => (intro w hSw; (try dsimp only at hSw); go_simp; (try with_reducible rfl))
              try simp only [List.getElem_toArray, List.getElem_cons_succ, List.getElem_cons_zero, Act.put, List.setIfInBounds_toArray, List.set_cons_zero, List.set_cons_succ]
              refine Hd.take (i := 5) (v := ?tv451) hok rfl (by kernel_rfl) (fun _ _ _ h => h) (Or.inl ⟨by rfl, ?ty451⟩) (by assumption) ?tr451
              case ty451 => (intro w hSw; (try dsimp only at hSw); go_simp; (try with_reducible rfl))
              try simp only [List.getElem_toArray, List.getElem_cons_succ, List.getElem_cons_zero, Act.put, List.setIfInBounds_toArray, List.set_cons_zero, List.set_cons_succ]
              refine Hd.take (i := 6) (v := ?tv452) hok rfl (by kernel_rfl) (fun _ _ _ h => h) (Or.inl ⟨by rfl, ?ty452⟩) (by assumption) ?tr452
              case ty452 => (intro w hSw; (try dsimp only at hSw); go_simp; (try with_reducible rfl))
              try simp only [List.getElem_toArray, List.getElem_cons_succ, List.getElem_cons_zero, Act.put, List.setIfInBounds_toArray, List.set_cons_zero, List.set_cons_succ]
              refine Hd.two (i := 7) (k := 11) rfl rfl (by kernel_rfl) (fun K hK => ?_) (fun K hK => ?_)
              · go_simp
                refine (findS_any _ m2 Wd (hsDl.out _ (hbd.trans (hb0.mono (by first | exact hbd.size | exact Nat.le_trans hbd.size hb0.size)))) hsz.out _).mono ?_
                rintro e wXr ⟨zf, rfl, hzf, hlf, hb_wXr⟩
                dsimp only
                have hb2_wXr := hb0.trans (hb_wXr.out.mono hb0.size)
                have hSn := hcl.out _ (hbd.trans (hb2_wXr.mono hbd.size))
                refine hK _ _ hSn ?_
                clear hK K
                try simp only [List.getElem_toArray, List.getElem_cons_succ, List.getElem_cons_zero, Act.put, List.setIfInBounds_toArray, List.set_cons_zero, List.set_cons_succ]
                refine Hd.take (i := 8) (v := ?tv453) hok rfl (by kernel_rfl) (fun _ _ _ h => h) (Or.inl ⟨by rfl, ?ty453⟩) (by assumption) ?tr453
                case ty453 => (intro w hSw; (try dsimp only at hSw); go_simp; (try with_reducible rfl))
                try simp only [List.getElem_toArray, List.getElem_cons_succ, List.getElem_cons_zero, Act.put, List.setIfInBounds_toArray, List.set_cons_zero, List.set_cons_succ]
                refine Hd.take (i := 9) (v := ?tv454) hok rfl (by kernel_rfl) (fun _ _ _ h => h) (Or.inl ⟨by rfl, ?ty454⟩) (by assumption) ?tr454
                case ty454 => (intro w hSw; (try dsimp only at hSw); go_simp; (try with_reducible rfl))
                try simp only [List.getElem_toArray, List.getElem_cons_succ, List.getElem_cons_zero, Act.put, List.setIfInBounds_toArray, List.set_cons_zero, List.set_cons_succ]
                refine Hd.take (i := 10) (v := ?tv455) hok rfl (by kernel_rfl) (fun _ _ _ h => h) (Or.inl ⟨by rfl, ?ty455⟩) (by assumption) ?tr455
                case ty455 => (intro w hSw; (try dsimp only at hSw); go_simp; (try with_reducible rfl))
                try simp only [List.getElem_toArray, List.getElem_cons_succ, List.getElem_cons_zero, Act.put, List.setIfInBounds_toArray, List.set_cons_zero, List.set_cons_succ]
                refine Hd.one (i := 11) rfl (by kernel_rfl) (fun K hK => ?_)
                go_simp
                have hzn := (Zoo.nil wXr).newBox [.string ⟨#[]⟩, .int .u64 0, .int .u64 0, .int .u64 0, .slice none 0 0].toArray 48
                have hbn : Below wXr.heap.size wXr _ := (Below.refl _ _).alloc (Nat.le_refl _) (.cells [.string ⟨#[]⟩, .int .u64 0, .int .u64 0, .int .u64 0, .slice none 0 0].toArray 48)
                have hln := (hlf.out.weak (ok2 := fun k => Wd.heap.size ≤ k ∧ k ≠ wXr.heap.size) (fun k hk h => ⟨h, Nat.ne_of_lt hk⟩)).below hbn
                have hb3 := hb2_wXr.trans (hbn.mono hb2_wXr.size)
                have hFle := hb2_wXr.size
                generalize (wXr.alloc (.cells [.string ⟨#[]⟩, .int .u64 0, .int .u64 0, .int .u64 0, .slice none 0 0].toArray 48)) = wYr at hzn hbn hln hb3 ⊢
                have hSn := hcl.out _ (hbd.trans (hb3.mono hbd.size))
                refine hK _ _ hSn ?_
                clear hK K
                try simp only [List.getElem_toArray, List.getElem_cons_succ, List.getElem_cons_zero, Act.put, List.setIfInBounds_toArray, List.set_cons_zero, List.set_cons_succ]
                refine Hd.one (i := 12) rfl (by kernel_rfl) (fun K hK => ?_)
                have hs1 := hzn.boxSome (C := [.string ⟨#[]⟩, .int .u64 0, .int .u64 0, .int .u64 0, .slice none 0 0]) 0 rfl
                refine wp_store_op rfl 48 (.tmp 10) (.tmp 73) rfl (wXr.heap.size) 0 (bxCells zf) rfl rfl Tryz.sizeOf48 (bxT.one zf) hs1.1 hs1.2 ?_
                have hzF := (hzn.fillBox (C := [.string ⟨#[]⟩, .int .u64 0, .int .u64 0, .int .u64 0, .slice none 0 0]) 0 rfl (bxCells zf) rfl).box 0 rfl
                have hlF := (hln.sets (wXr.heap.size) (bxCells zf) (fun k hk _ => hk.2)).now
                have hbF := bel_sets hb3 (wXr.heap.size) (bxCells zf) hFle
                generalize wYr.setCells (wXr.heap.size) 0 (bxCells zf) = wFr at hzF hlF hbF ⊢
                have hSn := hcl.out _ (hbd.trans (hbF.mono hbd.size))
                refine hK _ _ hSn ?_
                clear hK K
                try simp only [List.getElem_toArray, List.getElem_cons_succ, List.getElem_cons_zero, Act.put, List.setIfInBounds_toArray, List.set_cons_zero, List.set_cons_succ]
                refine Hd.done (by kernel_rfl) ?_
                simp only [List.drop_succ_cons, List.drop_zero]
                have hrel : Hid (Fd wr m2 z.name (wXr.heap.size) zf wFr) := Lib.hid ⟨hzf.out, hzF.1, hlF, hbd.trans (hbF.mono hbd.size)⟩
                clear hs1 hzF hlF hbF
                go_wp2_with fail
                go_meet
                case rel => exact ⟨wXr.heap.size, zf, rfl, rfl, hrel⟩
              · go_simp
                have hzn := (Zoo.nil Wd).newBox [.string ⟨#[]⟩, .int .u64 0, .int .u64 0, .int .u64 0, .slice none 0 0].toArray 48
                have hbn : Below Wd.heap.size Wd _ := (Below.refl _ _).alloc (Nat.le_refl _) (.cells [.string ⟨#[]⟩, .int .u64 0, .int .u64 0, .int .u64 0, .slice none 0 0].toArray 48)
                have hFB0 : Wd.heap.size < (Wd.alloc (.cells [.string ⟨#[]⟩, .int .u64 0, .int .u64 0, .int .u64 0, .slice none 0 0].toArray 48)).heap.size := by simp
                generalize (Wd.alloc (.cells [.string ⟨#[]⟩, .int .u64 0, .int .u64 0, .int .u64 0, .slice none 0 0].toArray 48)) = wXr at hzn hbn hFB0 ⊢
                have hSn := hcl.out _ (hbd.trans (hbn.mono hbd.size))
                refine hK _ _ hSn ?_
                clear hK K
                try simp only [List.getElem_toArray, List.getElem_cons_succ, List.getElem_cons_zero, Act.put, List.setIfInBounds_toArray, List.set_cons_zero, List.set_cons_succ]
                refine Hd.one (i := 7) rfl (by kernel_rfl) (fun K hK => ?_)
                go_simp
                refine (findS_any _ m2 wXr (hsDl.out _ (hbd.trans (hbn.mono (by first | exact hbd.size | exact Nat.le_trans hbd.size hbn.size)))) hsz.out _).mono ?_
                rintro e wYr ⟨zf, rfl, hzf, hlf, hb_wYr⟩
                dsimp only
                have hb2_wYr := hbn.trans (hb_wYr.out.mono hbn.size)
                have hzn2 := hzn.below hb_wYr.out
                have hFle := Nat.le_refl Wd.heap.size
                have hSn := hcl.out _ (hbd.trans (hb2_wYr.mono hbd.size))
                refine hK _ _ hSn ?_
                clear hK K
                try simp only [List.getElem_toArray, List.getElem_cons_succ, List.getElem_cons_zero, Act.put, List.setIfInBounds_toArray, List.set_cons_zero, List.set_cons_succ]
                refine Hd.take (i := 8) (v := ?tv456) hok rfl (by kernel_rfl) (fun _ _ _ h => h) (Or.inl ⟨by rfl, ?ty456⟩) (by assumption) ?tr456
                case ty456 => (intro w hSw; (try dsimp only at hSw); go_simp; (try with_reducible rfl))
                try simp only [List.getElem_toArray, List.getElem_cons_succ, List.getElem_cons_zero, Act.put, List.setIfInBounds_toArray, List.set_cons_zero, List.set_cons_succ]
                refine Hd.take (i := 9) (v := ?tv457) hok rfl (by kernel_rfl) (fun _ _ _ h => h) (Or.inl ⟨by rfl, ?ty457⟩) (by assumption) ?tr457
                case ty457 => (intro w hSw; (try dsimp only at hSw); go_simp; (try with_reducible rfl))
                try simp only [List.getElem_toArray, List.getElem_cons_succ, List.getElem_cons_zero, Act.put, List.setIfInBounds_toArray, List.set_cons_zero, List.set_cons_succ]
                refine Hd.take (i := 10) (v := ?tv458) hok rfl (by kernel_rfl) (fun _ _ _ h => h) (Or.inl ⟨by rfl, ?ty458⟩) (by assumption) ?tr458
                case ty458 => (intro w hSw; (try dsimp only at hSw); go_simp; (try with_reducible rfl))
                try simp only [List.getElem_toArray, List.getElem_cons_succ, List.getElem_cons_zero, Act.put, List.setIfInBounds_toArray, List.set_cons_zero, List.set_cons_succ]
                refine Hd.one (i := 12) rfl (by kernel_rfl) (fun K hK => ?_)
                have hs1 := hzn2.boxSome (C := [.string ⟨#[]⟩, .int .u64 0, .int .u64 0, .int .u64 0, .slice none 0 0]) 0 rfl
                refine wp_store_op rfl 48 (.tmp 10) (.tmp 73) rfl (Wd.heap.size) 0 (bxCells zf) rfl rfl Tryz.sizeOf48 (bxT.one zf) hs1.1 hs1.2 ?_
                have hzF := (hzn2.fillBox (C := [.string ⟨#[]⟩, .int .u64 0, .int .u64 0, .int .u64 0, .slice none 0 0]) 0 rfl (bxCells zf) rfl).box 0 rfl
                have hlF := (hlf.out.sets (Wd.heap.size) (bxCells zf) (fun k hk _ => by have h1 : wXr.heap.size ≤ k := hk; omega)).now
                have hbF := bel_sets hb2_wYr (Wd.heap.size) (bxCells zf) hFle
                generalize wYr.setCells (Wd.heap.size) 0 (bxCells zf) = wFr at hzF hlF hbF ⊢
                have hSn := hcl.out _ (hbd.trans (hbF.mono hbd.size))
                refine hK _ _ hSn ?_
                clear hK K
                try simp only [List.getElem_toArray, List.getElem_cons_succ, List.getElem_cons_zero, Act.put, List.setIfInBounds_toArray, List.set_cons_zero, List.set_cons_succ]
                refine Hd.done (by kernel_rfl) ?_
                simp only [List.drop_succ_cons, List.drop_zero]
                have hrel : Hid (Fd wr m2 z.name (Wd.heap.size) zf wFr) := Lib.hid ⟨hzf.out, hzF.1, hlF, hbd.trans (hbF.mono hbd.size)⟩
                clear hs1 hzF hlF hbF
                go_wp2_with fail
                go_meet
                case rel => exact ⟨Wd.heap.size, zf, rfl, rfl, hrel⟩
            case rest =>
            obtain ⟨FB, zf, rfl, rfl, hF⟩ := hcut
            generalize wc = w8 at *
            have hA8 := Lib.hid (hA.out.below hF.out.2.2.2)
            obtain ⟨hzfb, hFh, hFl, hFb⟩ := hF.out
            have hMB0 : ∀ w', Below w8.heap.size w8 w' → w'.cell? ⟨MB, 0, none⟩ = some (.slice (some ⟨xb, xo, none⟩) m1.boxes.length cb1) := fun w' h => (hcl.out w' (hFb.trans (h.mono hFb.size))).2.2.2.2.2.2.1
            clear hF hcl hbd hb0 hsDl
            have hcl : Hid (∀ w', Below w8.heap.size w8 w' → w'.cell? ⟨MB, 0, none⟩ = some (.slice (some ⟨xb, xo, none⟩) m1.boxes.length cb1) ∧ w'.cell? ⟨FB, 0, none⟩ = some (.string zf.name) ∧ w'.cell? ⟨FB, 1, none⟩ = some (.int .u64 zf.validity) ∧ w'.cell? ⟨FB, 2, none⟩ = some (.int .u64 zf.next) ∧ w'.cell? ⟨FB, 3, none⟩ = some (.int .u64 zf.high) ∧ w'.cell? ⟨FB, 4, none⟩ = some (.slice zf.a zf.rows.length zf.c) ∧ w'.cell? ⟨xb, xo + k * 5, none⟩ = some (.string z.name) ∧ w'.cell? ⟨xb, xo + k * 5 + 1, none⟩ = some (.int .u64 z.validity) ∧ w'.cell? ⟨xb, xo + k * 5 + 2, none⟩ = some (.int .u64 z.next) ∧ w'.cell? ⟨xb, xo + k * 5 + 3, none⟩ = some (.int .u64 z.high) ∧ w'.cell? ⟨xb, xo + k * 5 + 4, none⟩ = some (.slice z.a z.rows.length z.c)) := Lib.hid (fun w' h => ⟨hMB0 w' h, box_cell (bel_heap h hFh) 0, box_cell (bel_heap h hFh) 1, box_cell (bel_heap h hFh) 2, box_cell (bel_heap h hFh) 3, box_cell (bel_heap h hFh) 4, (hrow.out w' (hFb.trans (h.mono hFb.size))).1⟩)
            have hbd : Below w8.heap.size w8 w8.drew := (Below.refl _ _).drew
            go_upto_region 15 with fail
            by_cases hn : z.name = nm
            · have t1 : (z.name.toList != nm.toList) = false := by rw [hn]; simp
              clear hMB0 hFh hFl hzfb
              refine wp_region_hd (fun w' => w'.cell? ⟨MB, 0, none⟩ = some (.slice (some ⟨xb, xo, none⟩) m1.boxes.length cb1) ∧ w'.cell? ⟨FB, 0, none⟩ = some (.string zf.name) ∧ w'.cell? ⟨FB, 1, none⟩ = some (.int .u64 zf.validity) ∧ w'.cell? ⟨FB, 2, none⟩ = some (.int .u64 zf.next) ∧ w'.cell? ⟨FB, 3, none⟩ = some (.int .u64 zf.high) ∧ w'.cell? ⟨FB, 4, none⟩ = some (.slice zf.a zf.rows.length zf.c) ∧ w'.cell? ⟨xb, xo + k * 5, none⟩ = some (.string z.name) ∧ w'.cell? ⟨xb, xo + k * 5 + 1, none⟩ = some (.int .u64 z.validity) ∧ w'.cell? ⟨xb, xo + k * 5 + 2, none⟩ = some (.int .u64 z.next) ∧ w'.cell? ⟨xb, xo + k * 5 + 3, none⟩ = some (.int .u64 z.high) ∧ w'.cell? ⟨xb, xo + k * 5 + 4, none⟩ = some (.slice z.a z.rows.length z.c)) 21 1 (by kernel_rfl) rfl ⟨by kernel_rfl, by kernel_rfl, by kernel_rfl, by decide⟩ (hcl.out _ hbd) (fun hok hS0 => ?_)
              have hAF := Lib.hid (hA8.out.below hbd)
              generalize w8.drew = Wd at *
              refine Hd.take (i := 0) (v := ?tv459) hok rfl (by kernel_rfl) (fun _ _ _ h => h) (Or.inl ⟨by rfl, ?ty459⟩) (by assumption) ?tr459
              case ty459 => (intro w hSw; (try dsimp only at hSw); go_simp; (try with_reducible rfl))
              try simp only [List.getElem_toArray, List.getElem_cons_succ, List.getElem_cons_zero, Act.put, List.setIfInBounds_toArray, List.set_cons_zero, List.set_cons_succ]
              refine Hd.take (i := 1) (v := ?tv460) hok rfl (by kernel_rfl) (fun _ _ _ h => h) (Or.inl ⟨by rfl, ?ty460⟩) (by assumption) ?tr460
              case ty460 => (intro w hSw; (try dsimp only at hSw); go_simp; (try with_reducible rfl))
              try simp only [List.getElem_toArray, List.getElem_cons_succ, List.getElem_cons_zero, Act.put, List.setIfInBounds_toArray, List.set_cons_zero, List.set_cons_succ]
              refine Hd.take (i := 2) (v := ?tv461) hok rfl (by kernel_rfl) (fun _ _ _ h => h) (Or.inl ⟨by rfl, ?ty461⟩) (by assumption) ?tr461
              case ty461 => (intro w hSw; (try dsimp only at hSw); go_simp; (try with_reducible rfl))
              try simp only [List.getElem_toArray, List.getElem_cons_succ, List.getElem_cons_zero, Act.put, List.setIfInBounds_toArray, List.set_cons_zero, List.set_cons_succ]
              refine Hd.take (i := 3) (v := ?tv462) hok rfl (by kernel_rfl) (fun _ _ _ h => h) (Or.inl ⟨by rfl, ?ty462⟩) (by assumption) ?tr462
              case ty462 => (intro w hSw; (try dsimp only at hSw); go_simp; (try with_reducible rfl))
              try simp only [List.getElem_toArray, List.getElem_cons_succ, List.getElem_cons_zero, Act.put, List.setIfInBounds_toArray, List.set_cons_zero, List.set_cons_succ]
              refine Hd.take (i := 4) (v := ?tv463) hok rfl (by kernel_rfl) (fun _ _ _ h => h) (Or.inl ⟨by rfl, ?ty463⟩) (by assumption) ?tr463
              case ty463 => (intro w hSw; (try dsimp only at hSw); go_simp; (try with_reducible rfl))
              try simp only [List.getElem_toArray, List.getElem_cons_succ, List.getElem_cons_zero, Act.put, List.setIfInBounds_toArray, List.set_cons_zero, List.set_cons_succ]
              refine Hd.take (i := 5) (v := ?tv464) hok rfl (by kernel_rfl) (fun _ _ _ h => h) (Or.inl ⟨by rfl, ?ty464⟩) (by assumption) ?tr464
              case ty464 => (intro w hSw; (try dsimp only at hSw); go_simp; (try with_reducible rfl))
              try simp only [List.getElem_toArray, List.getElem_cons_succ, List.getElem_cons_zero, Act.put, List.setIfInBounds_toArray, List.set_cons_zero, List.set_cons_succ]
              refine Hd.take (i := 6) (v := ?tv465) hok rfl (by kernel_rfl) (fun _ _ _ h => h) (Or.inl ⟨by rfl, ?ty465⟩) (by assumption) ?tr465
              case ty465 => (intro w hSw; (try dsimp only at hSw); go_simp; (try with_reducible rfl))
              try simp only [List.getElem_toArray, List.getElem_cons_succ, List.getElem_cons_zero, Act.put, List.setIfInBounds_toArray, List.set_cons_zero, List.set_cons_succ]
              refine Hd.take (i := 7) (v := ?tv466) hok rfl (by kernel_rfl) (fun _ _ _ h => h) (Or.inl ⟨by rfl, ?ty466⟩) (by assumption) ?tr466
              case ty466 => (intro w hSw; (try dsimp only at hSw); go_simp; (try with_reducible rfl))
              try simp only [List.getElem_toArray, List.getElem_cons_succ, List.getElem_cons_zero, Act.put, List.setIfInBounds_toArray, List.set_cons_zero, List.set_cons_succ]
              refine Hd.take (i := 8) (v := ?tv467) hok rfl (by kernel_rfl) (fun _ _ _ h => h) (Or.inl ⟨by rfl, ?ty467⟩) (by assumption) ?tr467
              case ty467 => (intro w hSw; (try dsimp only at hSw); go_simp; (try with_reducible rfl))
              try simp only [List.getElem_toArray, List.getElem_cons_succ, List.getElem_cons_zero, Act.put, List.setIfInBounds_toArray, List.set_cons_zero, List.set_cons_succ]
              refine Hd.take (i := 9) (v := _) hok rfl (by kernel_rfl) (fun _ _ _ h => h) (Or.inr ⟨by rfl, rfl⟩) (by assumption) ?_
              try simp only [List.getElem_toArray, List.getElem_cons_succ, List.getElem_cons_zero, Act.put, List.setIfInBounds_toArray, List.set_cons_zero, List.set_cons_succ]
              refine Hd.take (i := 10) (v := _) hok rfl (by kernel_rfl) (fun _ _ _ h => h) (Or.inr ⟨by rfl, rfl⟩) (by assumption) ?_
              try simp only [List.getElem_toArray, List.getElem_cons_succ, List.getElem_cons_zero, Act.put, List.setIfInBounds_toArray, List.set_cons_zero, List.set_cons_succ]
              refine Hd.take (i := 11) (v := _) hok rfl (by kernel_rfl) (fun _ _ _ h => h) (Or.inr ⟨by rfl, rfl⟩) (by assumption) ?_
              try simp only [List.getElem_toArray, List.getElem_cons_succ, List.getElem_cons_zero, Act.put, List.setIfInBounds_toArray, List.set_cons_zero, List.set_cons_succ]
              refine Hd.take (i := 12) (v := _) hok rfl (by kernel_rfl) (fun _ _ _ h => h) (Or.inr ⟨by rfl, rfl⟩) (by assumption) ?_
              try simp only [List.getElem_toArray, List.getElem_cons_succ, List.getElem_cons_zero, Act.put, List.setIfInBounds_toArray, List.set_cons_zero, List.set_cons_succ]
              refine Hd.take (i := 13) (v := _) hok rfl (by kernel_rfl) (fun _ _ _ h => h) (Or.inr ⟨by rfl, rfl⟩) (by assumption) ?_
              try simp only [List.getElem_toArray, List.getElem_cons_succ, List.getElem_cons_zero, Act.put, List.setIfInBounds_toArray, List.set_cons_zero, List.set_cons_succ]
              refine Hd.take (i := 14) (v := _) hok rfl (by kernel_rfl) (fun _ _ _ h => h) (Or.inr ⟨by rfl, rfl⟩) (by assumption) ?_
              try simp only [List.getElem_toArray, List.getElem_cons_succ, List.getElem_cons_zero, Act.put, List.setIfInBounds_toArray, List.set_cons_zero, List.set_cons_succ]
              refine Hd.take (i := 15) (v := _) hok rfl (by kernel_rfl) (fun _ _ _ h => h) (Or.inr ⟨by rfl, rfl⟩) (by assumption) ?_
              try simp only [List.getElem_toArray, List.getElem_cons_succ, List.getElem_cons_zero, Act.put, List.setIfInBounds_toArray, List.set_cons_zero, List.set_cons_succ]
              refine Hd.take (i := 16) (v := _) hok rfl (by kernel_rfl) (fun _ _ _ h => h) (Or.inr ⟨by rfl, rfl⟩) (by assumption) ?_
              try simp only [List.getElem_toArray, List.getElem_cons_succ, List.getElem_cons_zero, Act.put, List.setIfInBounds_toArray, List.set_cons_zero, List.set_cons_succ]
              refine Hd.take (i := 17) (v := _) hok rfl (by kernel_rfl) (fun _ _ _ h => h) (Or.inr ⟨by rfl, rfl⟩) (by assumption) ?_
              try simp only [List.getElem_toArray, List.getElem_cons_succ, List.getElem_cons_zero, Act.put, List.setIfInBounds_toArray, List.set_cons_zero, List.set_cons_succ]
              refine Hd.take (i := 18) (v := _) hok rfl (by kernel_rfl) (fun _ _ _ h => h) (Or.inr ⟨by rfl, rfl⟩) (by assumption) ?_
              try simp only [List.getElem_toArray, List.getElem_cons_succ, List.getElem_cons_zero, Act.put, List.setIfInBounds_toArray, List.set_cons_zero, List.set_cons_succ]
              refine Hd.take (i := 19) (v := _) hok rfl (by kernel_rfl) (fun _ _ _ h => h) (Or.inr ⟨by rfl, rfl⟩) (by assumption) ?_
              try simp only [List.getElem_toArray, List.getElem_cons_succ, List.getElem_cons_zero, Act.put, List.setIfInBounds_toArray, List.set_cons_zero, List.set_cons_succ]
              refine Hd.take (i := 20) (v := _) hok rfl (by kernel_rfl) (fun _ _ _ h => h) (Or.inr ⟨by rfl, rfl⟩) (by assumption) ?_
              try simp only [List.getElem_toArray, List.getElem_cons_succ, List.getElem_cons_zero, Act.put, List.setIfInBounds_toArray, List.set_cons_zero, List.set_cons_succ]
              refine Hd.done (by kernel_rfl) ?_
              simp only [List.drop_succ_cons, List.drop_zero]
              clear hok hS0 hcl hrow hfnd hn hBm t1 hFb
              go_wp2_with fail
              go_roundw
              case rel => exact ⟨k + 1, by go_num, by omega, hAF⟩
              case measure => simp [intOf] <;> omega
            · have t1 : (z.name.toList != nm.toList) = true := by rw [bne_iff_ne]; exact fun h => hn (toList_inj_ h)
              have t1' : (z.name.toList == nm.toList) = false := by rw [beq_eq_false_iff_ne]; exact fun h => hn (toList_inj_ h)
              have hfn := hfnd.out hn
              rw [hfn] at hzfb ⊢
              have hzz : zf.b = z.b := hzfb
              have hcall : Hid (∀ w', Below w8.heap.size w8 w' → Calls Tryz.prog 20 #[.agg #[.string zf.name, .int .u64 zf.validity, .int .u64 zf.next, .int .u64 zf.high, .slice zf.a zf.rows.length zf.c], .agg #[.string z.name, .int .u64 z.validity, .int .u64 z.next, .int .u64 z.high, .slice z.a z.rows.length z.c]] w' fun e w2 => e = .returned (.bool true) ∧ Hid (Below w'.heap.size w' w2)) := Lib.hid (fun w' h => by
                have hB := hBm.out
                rw [← hzz] at hB
                refine sameBox_yes zf z (hFl.below h) (hrow.out w' (hFb.trans (h.mono hFb.size))).2 hzz ?_ (fun y hy => ?_)
                · have h1 := hB.len
                  have h2 : zf.b.letters.length = zf.rows.length := List.length_map ..
                  omega
                · have := right_16 (hB.lets y.x (List.mem_map_of_mem (f := LtV.x) hy)).fl
                  omega)
              clear hMB0 hFh hFl hzfb hzz hfn
              refine wp_region_hd (fun w' => w'.cell? ⟨MB, 0, none⟩ = some (.slice (some ⟨xb, xo, none⟩) m1.boxes.length cb1) ∧ w'.cell? ⟨FB, 0, none⟩ = some (.string zf.name) ∧ w'.cell? ⟨FB, 1, none⟩ = some (.int .u64 zf.validity) ∧ w'.cell? ⟨FB, 2, none⟩ = some (.int .u64 zf.next) ∧ w'.cell? ⟨FB, 3, none⟩ = some (.int .u64 zf.high) ∧ w'.cell? ⟨FB, 4, none⟩ = some (.slice zf.a zf.rows.length zf.c) ∧ w'.cell? ⟨xb, xo + k * 5, none⟩ = some (.string z.name) ∧ w'.cell? ⟨xb, xo + k * 5 + 1, none⟩ = some (.int .u64 z.validity) ∧ w'.cell? ⟨xb, xo + k * 5 + 2, none⟩ = some (.int .u64 z.next) ∧ w'.cell? ⟨xb, xo + k * 5 + 3, none⟩ = some (.int .u64 z.high) ∧ w'.cell? ⟨xb, xo + k * 5 + 4, none⟩ = some (.slice z.a z.rows.length z.c)) 21 1 (by kernel_rfl) rfl ⟨by kernel_rfl, by kernel_rfl, by kernel_rfl, by decide⟩ (hcl.out _ hbd) (fun hok hS0 => ?_)
              generalize w8.drew = Wd at *
              refine Hd.take (i := 0) (v := ?tv468) hok rfl (by kernel_rfl) (fun _ _ _ h => h) (Or.inl ⟨by rfl, ?ty468⟩) (by assumption) ?tr468
              case ty468 => (intro w hSw; (try dsimp only at hSw); go_simp; (try with_reducible rfl))
              try simp only [List.getElem_toArray, List.getElem_cons_succ, List.getElem_cons_zero, Act.put, List.setIfInBounds_toArray, List.set_cons_zero, List.set_cons_succ]
              refine Hd.take (i := 1) (v := ?tv469) hok rfl (by kernel_rfl) (fun _ _ _ h => h) (Or.inl ⟨by rfl, ?ty469⟩) (by assumption) ?tr469
              case ty469 => (intro w hSw; (try dsimp only at hSw); go_simp; (try with_reducible rfl))
              try simp only [List.getElem_toArray, List.getElem_cons_succ, List.getElem_cons_zero, Act.put, List.setIfInBounds_toArray, List.set_cons_zero, List.set_cons_succ]
              refine Hd.take (i := 2) (v := ?tv470) hok rfl (by kernel_rfl) (fun _ _ _ h => h) (Or.inl ⟨by rfl, ?ty470⟩) (by assumption) ?tr470
              case ty470 => (intro w hSw; (try dsimp only at hSw); go_simp; (try with_reducible rfl))
              try simp only [List.getElem_toArray, List.getElem_cons_succ, List.getElem_cons_zero, Act.put, List.setIfInBounds_toArray, List.set_cons_zero, List.set_cons_succ]
              refine Hd.take (i := 3) (v := ?tv471) hok rfl (by kernel_rfl) (fun _ _ _ h => h) (Or.inl ⟨by rfl, ?ty471⟩) (by assumption) ?tr471
              case ty471 => (intro w hSw; (try dsimp only at hSw); go_simp; (try with_reducible rfl))
              try simp only [List.getElem_toArray, List.getElem_cons_succ, List.getElem_cons_zero, Act.put, List.setIfInBounds_toArray, List.set_cons_zero, List.set_cons_succ]
              refine Hd.take (i := 4) (v := ?tv472) hok rfl (by kernel_rfl) (fun _ _ _ h => h) (Or.inl ⟨by rfl, ?ty472⟩) (by assumption) ?tr472
              case ty472 => (intro w hSw; (try dsimp only at hSw); go_simp; (try with_reducible rfl))
              try simp only [List.getElem_toArray, List.getElem_cons_succ, List.getElem_cons_zero, Act.put, List.setIfInBounds_toArray, List.set_cons_zero, List.set_cons_succ]
              refine Hd.take (i := 5) (v := ?tv473) hok rfl (by kernel_rfl) (fun _ _ _ h => h) (Or.inl ⟨by rfl, ?ty473⟩) (by assumption) ?tr473
              case ty473 => (intro w hSw; (try dsimp only at hSw); go_simp; (try with_reducible rfl))
              try simp only [List.getElem_toArray, List.getElem_cons_succ, List.getElem_cons_zero, Act.put, List.setIfInBounds_toArray, List.set_cons_zero, List.set_cons_succ]
              refine Hd.take (i := 6) (v := ?tv474) hok rfl (by kernel_rfl) (fun _ _ _ h => h) (Or.inl ⟨by rfl, ?ty474⟩) (by assumption) ?tr474
              case ty474 => (intro w hSw; (try dsimp only at hSw); go_simp; (try with_reducible rfl))
              try simp only [List.getElem_toArray, List.getElem_cons_succ, List.getElem_cons_zero, Act.put, List.setIfInBounds_toArray, List.set_cons_zero, List.set_cons_succ]
              refine Hd.take (i := 7) (v := ?tv475) hok rfl (by kernel_rfl) (fun _ _ _ h => h) (Or.inl ⟨by rfl, ?ty475⟩) (by assumption) ?tr475
              case ty475 => (intro w hSw; (try dsimp only at hSw); go_simp; (try with_reducible rfl))
              try simp only [List.getElem_toArray, List.getElem_cons_succ, List.getElem_cons_zero, Act.put, List.setIfInBounds_toArray, List.set_cons_zero, List.set_cons_succ]
              refine Hd.take (i := 8) (v := ?tv476) hok rfl (by kernel_rfl) (fun _ _ _ h => h) (Or.inl ⟨by rfl, ?ty476⟩) (by assumption) ?tr476
              case ty476 => (intro w hSw; (try dsimp only at hSw); go_simp; (try with_reducible rfl))
              try simp only [List.getElem_toArray, List.getElem_cons_succ, List.getElem_cons_zero, Act.put, List.setIfInBounds_toArray, List.set_cons_zero, List.set_cons_succ]
              refine Hd.take (i := 9) (v := ?tv477) hok rfl (by kernel_rfl) (fun _ _ _ h => h) (Or.inl ⟨by rfl, ?ty477⟩) (by assumption) ?tr477
              case ty477 => (intro w hSw; (try dsimp only at hSw); go_simp; (try with_reducible rfl))
              try simp only [List.getElem_toArray, List.getElem_cons_succ, List.getElem_cons_zero, Act.put, List.setIfInBounds_toArray, List.set_cons_zero, List.set_cons_succ]
              refine Hd.take (i := 10) (v := ?tv478) hok rfl (by kernel_rfl) (fun _ _ _ h => h) (Or.inl ⟨by rfl, ?ty478⟩) (by assumption) ?tr478
              case ty478 => (intro w hSw; (try dsimp only at hSw); go_simp; (try with_reducible rfl))
              try simp only [List.getElem_toArray, List.getElem_cons_succ, List.getElem_cons_zero, Act.put, List.setIfInBounds_toArray, List.set_cons_zero, List.set_cons_succ]
              refine Hd.take (i := 11) (v := ?tv479) hok rfl (by kernel_rfl) (fun _ _ _ h => h) (Or.inl ⟨by rfl, ?ty479⟩) (by assumption) ?tr479
              case ty479 => (intro w hSw; (try dsimp only at hSw); go_simp; (try with_reducible rfl))
              try simp only [List.getElem_toArray, List.getElem_cons_succ, List.getElem_cons_zero, Act.put, List.setIfInBounds_toArray, List.set_cons_zero, List.set_cons_succ]
              refine Hd.take (i := 12) (v := ?tv480) hok rfl (by kernel_rfl) (fun _ _ _ h => h) (Or.inl ⟨by rfl, ?ty480⟩) (by assumption) ?tr480
              case ty480 => (intro w hSw; (try dsimp only at hSw); go_simp; (try with_reducible rfl))
              try simp only [List.getElem_toArray, List.getElem_cons_succ, List.getElem_cons_zero, Act.put, List.setIfInBounds_toArray, List.set_cons_zero, List.set_cons_succ]
              refine Hd.take (i := 13) (v := ?tv481) hok rfl (by kernel_rfl) (fun _ _ _ h => h) (Or.inl ⟨by rfl, ?ty481⟩) (by assumption) ?tr481
              case ty481 => (intro w hSw; (try dsimp only at hSw); go_simp; (try with_reducible rfl))
              try simp only [List.getElem_toArray, List.getElem_cons_succ, List.getElem_cons_zero, Act.put, List.setIfInBounds_toArray, List.set_cons_zero, List.set_cons_succ]
              refine Hd.take (i := 14) (v := ?tv482) hok rfl (by kernel_rfl) (fun _ _ _ h => h) (Or.inl ⟨by rfl, ?ty482⟩) (by assumption) ?tr482
              case ty482 => (intro w hSw; (try dsimp only at hSw); go_simp; (try with_reducible rfl))
              try simp only [List.getElem_toArray, List.getElem_cons_succ, List.getElem_cons_zero, Act.put, List.setIfInBounds_toArray, List.set_cons_zero, List.set_cons_succ]
              refine Hd.take (i := 15) (v := ?tv483) hok rfl (by kernel_rfl) (fun _ _ _ h => h) (Or.inl ⟨by rfl, ?ty483⟩) (by assumption) ?tr483
              case ty483 => (intro w hSw; (try dsimp only at hSw); go_simp; (try with_reducible rfl))
              try simp only [List.getElem_toArray, List.getElem_cons_succ, List.getElem_cons_zero, Act.put, List.setIfInBounds_toArray, List.set_cons_zero, List.set_cons_succ]
              refine Hd.take (i := 16) (v := ?tv484) hok rfl (by kernel_rfl) (fun _ _ _ h => h) (Or.inl ⟨by rfl, ?ty484⟩) (by assumption) ?tr484
              case ty484 => (intro w hSw; (try dsimp only at hSw); go_simp; (try with_reducible rfl))
              try simp only [List.getElem_toArray, List.getElem_cons_succ, List.getElem_cons_zero, Act.put, List.setIfInBounds_toArray, List.set_cons_zero, List.set_cons_succ]
              refine Hd.take (i := 17) (v := ?tv485) hok rfl (by kernel_rfl) (fun _ _ _ h => h) (Or.inl ⟨by rfl, ?ty485⟩) (by assumption) ?tr485
              case ty485 => (intro w hSw; (try dsimp only at hSw); go_simp; (try with_reducible rfl))
              try simp only [List.getElem_toArray, List.getElem_cons_succ, List.getElem_cons_zero, Act.put, List.setIfInBounds_toArray, List.set_cons_zero, List.set_cons_succ]
              refine Hd.one (i := 18) rfl (by kernel_rfl) (fun K hK => ?_)
              go_simp
              refine (hcall.out _ hbd).mono ?_
              rintro e w9 ⟨rfl, hb9⟩
              dsimp only
              have hbd9 := hbd.trans (hb9.out.mono hbd.size)
              have hS1 := hcl.out _ hbd9
              refine hK _ _ hS1 ?_
              clear hK K hS0
              try simp only [List.getElem_toArray, List.getElem_cons_succ, List.getElem_cons_zero, Act.put, List.setIfInBounds_toArray, List.set_cons_zero, List.set_cons_succ]
              refine Hd.take (i := 19) (v := ?tv486) hok rfl (by kernel_rfl) (fun _ _ _ h => h) (Or.inl ⟨by rfl, ?ty486⟩) (by assumption) ?tr486
              case ty486 => (intro w hSw; (try dsimp only at hSw); go_simp; (try with_reducible rfl))
              try simp only [List.getElem_toArray, List.getElem_cons_succ, List.getElem_cons_zero, Act.put, List.setIfInBounds_toArray, List.set_cons_zero, List.set_cons_succ]
              refine Hd.take (i := 20) (v := ?tv487) hok rfl (by kernel_rfl) (fun _ _ _ h => h) (Or.inl ⟨by rfl, ?ty487⟩) (by assumption) ?tr487
              case ty487 => (intro w hSw; (try dsimp only at hSw); go_simp; (try with_reducible rfl))
              try simp only [List.getElem_toArray, List.getElem_cons_succ, List.getElem_cons_zero, Act.put, List.setIfInBounds_toArray, List.set_cons_zero, List.set_cons_succ]
              refine Hd.done (by kernel_rfl) ?_
              simp only [List.drop_succ_cons, List.drop_zero]
              have hAF := Lib.hid (hA8.out.below hbd9)
              clear hok hS1 hcl hrow hfnd hn hBm t1 t1' hcall hb9 hbd hbd9 hFb
              go_wp2_with fail
              go_roundw
              case rel => exact ⟨k + 1, by go_num, by omega, hAF⟩
              case measure => simp [intOf] <;> omega
          · obtain rfl : k = m1.boxes.length := by omega
            clear hz sC sD hsz
            have hsz := Lib.hid hr1.out.sized
            go_wp2_with fail
            clear x0 hbM
            go_loopw [12] (fun v12 wr => ∃ k : Nat, v12 = .int .i64 k ∧ k ≤ m2.boxes.length ∧ Hid (Ap7 W MB TB m1 m2 wr)) (fun v12 _ => m2.boxes.length - (intOf v12).toNat)
            case atStart => exact ⟨0, rfl, Nat.zero_le _, hA⟩
            case round =>
              clear hA
              obtain ⟨k, rfl, hk, hA⟩ := hrel
              have l82 := hr2.out.lb
              obtain ⟨C1, D1, hz, sC, sD⟩ := hA.out
              obtain ⟨ab1, cb1, nb1, ah1, ch1, as1, cs1, rfl⟩ := sC.now.shape
              obtain ⟨ab2, cb2, nb2, ah2, ch2, as2, cs2, rfl⟩ := sD.now.shape
              obtain rfl := sC.now.nb
              obtain rfl := sD.now.nb
              obtain ⟨hbT, -⟩ := hz.box (B := TB) (C := [.slice ab2 m2.boxes.length cb2, .int .u64 m2.nv, .slice ah2 m2.homes.length ch2, .slice as2 m2.seats.length cs2, .int .u64 m2.ns, .int .u64 m2.sweeps].toArray) (t := 27) 0 rfl
              have y0 : wr.cell? ⟨TB, 0, none⟩ = some (.slice ab2 m2.boxes.length cb2) := box_cell hbT 0
              by_cases hlk : k < m2.boxes.length
              · obtain ⟨xb, xo, z, e, hzb, hrow⟩ := sD.now.box_at hlk
                subst e
                have hk0 : (0 : Int) ≤ (k : Int) := by omega
                have hk1 : (k : Int) < (m2.boxes.length : Int) := by omega
                have hfnd : Hid ((findM m1 z.name).isSome = false → z.name = nm ∧ q.op = 4) := Lib.hid (fun h => by
                  have e1 : z.name = m2.boxes[k].name := congrArg Bx.name hzb
                  rw [e1] at h ⊢
                  exact hnew.out _ (List.getElem_mem hlk) h)
                replace hrow := Lib.hid hrow
                obtain ⟨hbM, -⟩ := hz.box (B := MB) (C := [.slice ab1 m1.boxes.length cb1, .int .u64 m1.nv, .slice ah1 m1.homes.length ch1, .slice as1 m1.seats.length cs1, .int .u64 m1.ns, .int .u64 m1.sweeps].toArray) (t := 27) 1 rfl
                have hcl : Hid (∀ w', Below wr.heap.size wr w' → w'.cell? ⟨MB, 0, none⟩ = some (.slice ab1 m1.boxes.length cb1) ∧ w'.cell? ⟨MB, 1, none⟩ = some (.int .u64 m1.nv) ∧ w'.cell? ⟨MB, 2, none⟩ = some (.slice ah1 m1.homes.length ch1) ∧ w'.cell? ⟨MB, 3, none⟩ = some (.slice as1 m1.seats.length cs1) ∧ w'.cell? ⟨MB, 4, none⟩ = some (.int .u64 m1.ns) ∧ w'.cell? ⟨MB, 5, none⟩ = some (.int .u64 m1.sweeps) ∧ w'.cell? ⟨TB, 0, none⟩ = some (.slice (some ⟨xb, xo, none⟩) m2.boxes.length cb2) ∧ w'.cell? ⟨xb, xo + k * 5, none⟩ = some (.string z.name)) := Lib.hid (fun w' h => ⟨box_cell (bel_heap h hbM) 0, box_cell (bel_heap h hbM) 1, box_cell (bel_heap h hbM) 2, box_cell (bel_heap h hbM) 3, box_cell (bel_heap h hbM) 4, box_cell (bel_heap h hbM) 5, box_cell (bel_heap h hbT) 0, (hrow.out w' h).1.1⟩)
                have hsCl := Lib.hid (fun (w' : World) (h : Below wr.heap.size wr w') => (sC.below h).now)
                have hbd : Below wr.heap.size wr wr.drew := (Below.refl _ _).drew
                have hb0 := Below.refl wr.drew.heap.size wr.drew
                clear hbM hbT hzb sC sD hz
                go_upto_region 20 with fail
                clear y0
                go_cut [14] (fun v14 wx => ∃ (FB : Nat) (zf : BxV), v14 = .bool (findM m1 z.name).isSome ∧ Hid (Fd wr m1 z.name FB zf wx))
                case first =>
                  refine wp_region_hd (fun w' => w'.cell? ⟨MB, 0, none⟩ = some (.slice ab1 m1.boxes.length cb1) ∧ w'.cell? ⟨MB, 1, none⟩ = some (.int .u64 m1.nv) ∧ w'.cell? ⟨MB, 2, none⟩ = some (.slice ah1 m1.homes.length ch1) ∧ w'.cell? ⟨MB, 3, none⟩ = some (.slice as1 m1.seats.length cs1) ∧ w'.cell? ⟨MB, 4, none⟩ = some (.int .u64 m1.ns) ∧ w'.cell? ⟨MB, 5, none⟩ = some (.int .u64 m1.sweeps) ∧ w'.cell? ⟨TB, 0, none⟩ = some (.slice (some ⟨xb, xo, none⟩) m2.boxes.length cb2) ∧ w'.cell? ⟨xb, xo + k * 5, none⟩ = some (.string z.name)) 13 1 (by kernel_rfl) rfl ⟨by kernel_rfl, by kernel_rfl, by kernel_rfl, by decide⟩ (hcl.out _ hbd) (fun hok hS0 => ?_)
                  generalize wr.drew = Wd at *
                  refine Hd.take (i := 0) (v := ?tv488) hok rfl (by kernel_rfl) (fun _ _ _ h => h) (Or.inl ⟨by rfl, ?ty488⟩) (by assumption) ?tr488
                  case ty488 => (intro w hSw; (try dsimp only at hSw); go_simp; (try with_reducible rfl))
                  try simp only [List.getElem_toArray, List.getElem_cons_succ, List.getElem_cons_zero, Act.put, List.setIfInBounds_toArray, List.set_cons_zero, List.set_cons_succ]
                  refine Hd.take (i := 1) (v := ?tv489) hok rfl (by kernel_rfl) (fun _ _ _ h => h) (Or.inl ⟨by rfl, ?ty489⟩) (by assumption) ?tr489
                  case ty489 => (intro w hSw; (try dsimp only at hSw); go_simp; (try with_reducible rfl))
                  try simp only [List.getElem_toArray, List.getElem_cons_succ, List.getElem_cons_zero, Act.put, List.setIfInBounds_toArray, List.set_cons_zero, List.set_cons_succ]
                  refine Hd.take (i := 2) (v := ?tv490) hok rfl (by kernel_rfl) (fun _ _ _ h => h) (Or.inl ⟨by rfl, ?ty490⟩) (by assumption) ?tr490
                  case ty490 => (intro w hSw; (try dsimp only at hSw); go_simp; (try with_reducible rfl))
                  try simp only [List.getElem_toArray, List.getElem_cons_succ, List.getElem_cons_zero, Act.put, List.setIfInBounds_toArray, List.set_cons_zero, List.set_cons_succ]
                  refine Hd.take (i := 3) (v := ?tv491) hok rfl (by kernel_rfl) (fun _ _ _ h => h) (Or.inl ⟨by rfl, ?ty491⟩) (by assumption) ?tr491
                  case ty491 => (intro w hSw; (try dsimp only at hSw); go_simp; (try with_reducible rfl))
                  try simp only [List.getElem_toArray, List.getElem_cons_succ, List.getElem_cons_zero, Act.put, List.setIfInBounds_toArray, List.set_cons_zero, List.set_cons_succ]
                  refine Hd.take (i := 4) (v := ?tv492) hok rfl (by kernel_rfl) (fun _ _ _ h => h) (Or.inl ⟨by rfl, ?ty492⟩) (by assumption) ?tr492
                  case ty492 => (intro w hSw; (try dsimp only at hSw); go_simp; (try with_reducible rfl))
                  try simp only [List.getElem_toArray, List.getElem_cons_succ, List.getElem_cons_zero, Act.put, List.setIfInBounds_toArray, List.set_cons_zero, List.set_cons_succ]
                  refine Hd.take (i := 5) (v := ?tv493) hok rfl (by kernel_rfl) (fun _ _ _ h => h) (Or.inl ⟨by rfl, ?ty493⟩) (by assumption) ?tr493
                  case ty493 => (intro w hSw; (try dsimp only at hSw); go_simp; (try with_reducible rfl))
                  try simp only [List.getElem_toArray, List.getElem_cons_succ, List.getElem_cons_zero, Act.put, List.setIfInBounds_toArray, List.set_cons_zero, List.set_cons_succ]
                  refine Hd.take (i := 6) (v := ?tv494) hok rfl (by kernel_rfl) (fun _ _ _ h => h) (Or.inl ⟨by rfl, ?ty494⟩) (by assumption) ?tr494
                  case ty494 => (intro w hSw; (try dsimp only at hSw); go_simp; (try with_reducible rfl))
                  try simp only [List.getElem_toArray, List.getElem_cons_succ, List.getElem_cons_zero, Act.put, List.setIfInBounds_toArray, List.set_cons_zero, List.set_cons_succ]
                  refine Hd.two (i := 7) (k := 11) rfl rfl (by kernel_rfl) (fun K hK => ?_) (fun K hK => ?_)
                  · go_simp
                    refine (findS_any _ m1 Wd (hsCl.out _ (hbd.trans (hb0.mono (by first | exact hbd.size | exact Nat.le_trans hbd.size hb0.size)))) hsz.out _).mono ?_
                    rintro e wXr ⟨zf, rfl, hzf, hlf, hb_wXr⟩
                    dsimp only
                    have hb2_wXr := hb0.trans (hb_wXr.out.mono hb0.size)
                    have hSn := hcl.out _ (hbd.trans (hb2_wXr.mono hbd.size))
                    refine hK _ _ hSn ?_
                    clear hK K
                    try simp only [List.getElem_toArray, List.getElem_cons_succ, List.getElem_cons_zero, Act.put, List.setIfInBounds_toArray, List.set_cons_zero, List.set_cons_succ]
                    refine Hd.take (i := 8) (v := ?tv495) hok rfl (by kernel_rfl) (fun _ _ _ h => h) (Or.inl ⟨by rfl, ?ty495⟩) (by assumption) ?tr495
                    case ty495 => (intro w hSw; (try dsimp only at hSw); go_simp; (try with_reducible rfl))
                    try simp only [List.getElem_toArray, List.getElem_cons_succ, List.getElem_cons_zero, Act.put, List.setIfInBounds_toArray, List.set_cons_zero, List.set_cons_succ]
                    refine Hd.take (i := 9) (v := ?tv496) hok rfl (by kernel_rfl) (fun _ _ _ h => h) (Or.inl ⟨by rfl, ?ty496⟩) (by assumption) ?tr496
                    case ty496 => (intro w hSw; (try dsimp only at hSw); go_simp; (try with_reducible rfl))
                    try simp only [List.getElem_toArray, List.getElem_cons_succ, List.getElem_cons_zero, Act.put, List.setIfInBounds_toArray, List.set_cons_zero, List.set_cons_succ]
                    refine Hd.take (i := 10) (v := ?tv497) hok rfl (by kernel_rfl) (fun _ _ _ h => h) (Or.inl ⟨by rfl, ?ty497⟩) (by assumption) ?tr497
                    case ty497 => (intro w hSw; (try dsimp only at hSw); go_simp; (try with_reducible rfl))
                    try simp only [List.getElem_toArray, List.getElem_cons_succ, List.getElem_cons_zero, Act.put, List.setIfInBounds_toArray, List.set_cons_zero, List.set_cons_succ]
                    refine Hd.one (i := 11) rfl (by kernel_rfl) (fun K hK => ?_)
                    go_simp
                    have hzn := (Zoo.nil wXr).newBox [.string ⟨#[]⟩, .int .u64 0, .int .u64 0, .int .u64 0, .slice none 0 0].toArray 48
                    have hbn : Below wXr.heap.size wXr _ := (Below.refl _ _).alloc (Nat.le_refl _) (.cells [.string ⟨#[]⟩, .int .u64 0, .int .u64 0, .int .u64 0, .slice none 0 0].toArray 48)
                    have hln := (hlf.out.weak (ok2 := fun k => Wd.heap.size ≤ k ∧ k ≠ wXr.heap.size) (fun k hk h => ⟨h, Nat.ne_of_lt hk⟩)).below hbn
                    have hb3 := hb2_wXr.trans (hbn.mono hb2_wXr.size)
                    have hFle := hb2_wXr.size
                    generalize (wXr.alloc (.cells [.string ⟨#[]⟩, .int .u64 0, .int .u64 0, .int .u64 0, .slice none 0 0].toArray 48)) = wYr at hzn hbn hln hb3 ⊢
                    have hSn := hcl.out _ (hbd.trans (hb3.mono hbd.size))
                    refine hK _ _ hSn ?_
                    clear hK K
                    try simp only [List.getElem_toArray, List.getElem_cons_succ, List.getElem_cons_zero, Act.put, List.setIfInBounds_toArray, List.set_cons_zero, List.set_cons_succ]
                    refine Hd.one (i := 12) rfl (by kernel_rfl) (fun K hK => ?_)
                    have hs1 := hzn.boxSome (C := [.string ⟨#[]⟩, .int .u64 0, .int .u64 0, .int .u64 0, .slice none 0 0]) 0 rfl
                    refine wp_store_op rfl 48 (.tmp 13) (.tmp 113) rfl (wXr.heap.size) 0 (bxCells zf) rfl rfl Tryz.sizeOf48 (bxT.one zf) hs1.1 hs1.2 ?_
                    have hzF := (hzn.fillBox (C := [.string ⟨#[]⟩, .int .u64 0, .int .u64 0, .int .u64 0, .slice none 0 0]) 0 rfl (bxCells zf) rfl).box 0 rfl
                    have hlF := (hln.sets (wXr.heap.size) (bxCells zf) (fun k hk _ => hk.2)).now
                    have hbF := bel_sets hb3 (wXr.heap.size) (bxCells zf) hFle
                    generalize wYr.setCells (wXr.heap.size) 0 (bxCells zf) = wFr at hzF hlF hbF ⊢
                    have hSn := hcl.out _ (hbd.trans (hbF.mono hbd.size))
                    refine hK _ _ hSn ?_
                    clear hK K
                    try simp only [List.getElem_toArray, List.getElem_cons_succ, List.getElem_cons_zero, Act.put, List.setIfInBounds_toArray, List.set_cons_zero, List.set_cons_succ]
                    refine Hd.done (by kernel_rfl) ?_
                    simp only [List.drop_succ_cons, List.drop_zero]
                    have hrel : Hid (Fd wr m1 z.name (wXr.heap.size) zf wFr) := Lib.hid ⟨hzf.out, hzF.1, hlF, hbd.trans (hbF.mono hbd.size)⟩
                    clear hs1 hzF hlF hbF
                    go_wp2_with fail
                    go_meet
                    case rel => exact ⟨wXr.heap.size, zf, rfl, hrel⟩
                  · go_simp
                    have hzn := (Zoo.nil Wd).newBox [.string ⟨#[]⟩, .int .u64 0, .int .u64 0, .int .u64 0, .slice none 0 0].toArray 48
                    have hbn : Below Wd.heap.size Wd _ := (Below.refl _ _).alloc (Nat.le_refl _) (.cells [.string ⟨#[]⟩, .int .u64 0, .int .u64 0, .int .u64 0, .slice none 0 0].toArray 48)
                    have hFB0 : Wd.heap.size < (Wd.alloc (.cells [.string ⟨#[]⟩, .int .u64 0, .int .u64 0, .int .u64 0, .slice none 0 0].toArray 48)).heap.size := by simp
                    generalize (Wd.alloc (.cells [.string ⟨#[]⟩, .int .u64 0, .int .u64 0, .int .u64 0, .slice none 0 0].toArray 48)) = wXr at hzn hbn hFB0 ⊢
                    have hSn := hcl.out _ (hbd.trans (hbn.mono hbd.size))
                    refine hK _ _ hSn ?_
                    clear hK K
                    try simp only [List.getElem_toArray, List.getElem_cons_succ, List.getElem_cons_zero, Act.put, List.setIfInBounds_toArray, List.set_cons_zero, List.set_cons_succ]
                    refine Hd.one (i := 7) rfl (by kernel_rfl) (fun K hK => ?_)
                    go_simp
                    refine (findS_any _ m1 wXr (hsCl.out _ (hbd.trans (hbn.mono (by first | exact hbd.size | exact Nat.le_trans hbd.size hbn.size)))) hsz.out _).mono ?_
                    rintro e wYr ⟨zf, rfl, hzf, hlf, hb_wYr⟩
                    dsimp only
                    have hb2_wYr := hbn.trans (hb_wYr.out.mono hbn.size)
                    have hzn2 := hzn.below hb_wYr.out
                    have hFle := Nat.le_refl Wd.heap.size
                    have hSn := hcl.out _ (hbd.trans (hb2_wYr.mono hbd.size))
                    refine hK _ _ hSn ?_
                    clear hK K
                    try simp only [List.getElem_toArray, List.getElem_cons_succ, List.getElem_cons_zero, Act.put, List.setIfInBounds_toArray, List.set_cons_zero, List.set_cons_succ]
                    refine Hd.take (i := 8) (v := ?tv498) hok rfl (by kernel_rfl) (fun _ _ _ h => h) (Or.inl ⟨by rfl, ?ty498⟩) (by assumption) ?tr498
                    case ty498 => (intro w hSw; (try dsimp only at hSw); go_simp; (try with_reducible rfl))
                    try simp only [List.getElem_toArray, List.getElem_cons_succ, List.getElem_cons_zero, Act.put, List.setIfInBounds_toArray, List.set_cons_zero, List.set_cons_succ]
                    refine Hd.take (i := 9) (v := ?tv499) hok rfl (by kernel_rfl) (fun _ _ _ h => h) (Or.inl ⟨by rfl, ?ty499⟩) (by assumption) ?tr499
                    case ty499 => (intro w hSw; (try dsimp only at hSw); go_simp; (try with_reducible rfl))
                    try simp only [List.getElem_toArray, List.getElem_cons_succ, List.getElem_cons_zero, Act.put, List.setIfInBounds_toArray, List.set_cons_zero, List.set_cons_succ]
                    refine Hd.take (i := 10) (v := ?tv500) hok rfl (by kernel_rfl) (fun _ _ _ h => h) (Or.inl ⟨by rfl, ?ty500⟩) (by assumption) ?tr500
                    case ty500 => (intro w hSw; (try dsimp only at hSw); go_simp; (try with_reducible rfl))
                    try simp only [List.getElem_toArray, List.getElem_cons_succ, List.getElem_cons_zero, Act.put, List.setIfInBounds_toArray, List.set_cons_zero, List.set_cons_succ]
                    refine Hd.one (i := 12) rfl (by kernel_rfl) (fun K hK => ?_)
                    have hs1 := hzn2.boxSome (C := [.string ⟨#[]⟩, .int .u64 0, .int .u64 0, .int .u64 0, .slice none 0 0]) 0 rfl
                    refine wp_store_op rfl 48 (.tmp 13) (.tmp 113) rfl (Wd.heap.size) 0 (bxCells zf) rfl rfl Tryz.sizeOf48 (bxT.one zf) hs1.1 hs1.2 ?_
                    have hzF := (hzn2.fillBox (C := [.string ⟨#[]⟩, .int .u64 0, .int .u64 0, .int .u64 0, .slice none 0 0]) 0 rfl (bxCells zf) rfl).box 0 rfl
                    have hlF := (hlf.out.sets (Wd.heap.size) (bxCells zf) (fun k hk _ => by have h1 : wXr.heap.size ≤ k := hk; omega)).now
                    have hbF := bel_sets hb2_wYr (Wd.heap.size) (bxCells zf) hFle
                    generalize wYr.setCells (Wd.heap.size) 0 (bxCells zf) = wFr at hzF hlF hbF ⊢
                    have hSn := hcl.out _ (hbd.trans (hbF.mono hbd.size))
                    refine hK _ _ hSn ?_
                    clear hK K
                    try simp only [List.getElem_toArray, List.getElem_cons_succ, List.getElem_cons_zero, Act.put, List.setIfInBounds_toArray, List.set_cons_zero, List.set_cons_succ]
                    refine Hd.done (by kernel_rfl) ?_
                    simp only [List.drop_succ_cons, List.drop_zero]
                    have hrel : Hid (Fd wr m1 z.name (Wd.heap.size) zf wFr) := Lib.hid ⟨hzf.out, hzF.1, hlF, hbd.trans (hbF.mono hbd.size)⟩
                    clear hs1 hzF hlF hbF
                    go_wp2_with fail
                    go_meet
                    case rel => exact ⟨Wd.heap.size, zf, rfl, hrel⟩
                case rest =>
                obtain ⟨FB, zf, rfl, hF⟩ := hcut
                generalize wc = w8 at *
                have hA8 := Lib.hid (hA.out.below hF.out.2.2.2)
                obtain ⟨s0, s1, s2, s3, s4, s5, s6, s7⟩ := hcl.out w8 hF.out.2.2.2
                obtain ⟨c0, c6, c7⟩ := hcw.out w8 hA8.out
                clear hcl hbd hb0 hsCl hrow hF s0 s1 s2 s3 s4 s5 c6 c7
                cases hwas : (findM m1 z.name).isSome with
                | true =>
                  clear hfnd
                  go_wp2_with fail
                  go_roundw
                  case rel => exact ⟨k + 1, by go_num, by omega, hA8⟩
                  case measure => simp [intOf] <;> omega
                | false =>
                  obtain ⟨e1, e2⟩ := hfnd.out hwas
                  have t1 : (z.name.toList != nm.toList) = false := by rw [e1]; simp
                  have t2 : (q.op != 4) = false := by rw [e2]; rfl
                  have t2' : (q.op == 4) = true := by rw [e2]; rfl
                  have t1' : (z.name.toList == nm.toList) = true := by rw [e1]; simp
                  clear hfnd e1 e2 hwas
                  go_wp2_with fail
                  go_roundw
                  case rel => exact ⟨k + 1, by go_num, by omega, hA8⟩
                  case measure => simp [intOf] <;> omega
              · obtain rfl : k = m2.boxes.length := by omega
                obtain ⟨hbM, -⟩ := hz.box (B := MB) (C := [.slice ab1 m1.boxes.length cb1, .int .u64 m1.nv, .slice ah1 m1.homes.length ch1, .slice as1 m1.seats.length cs1, .int .u64 m1.ns, .int .u64 m1.sweeps].toArray) (t := 27) 1 rfl
                clear y0
                have z0 : wr.cell? ⟨TB, 0, none⟩ = some (.slice ab2 m2.boxes.length cb2) := box_cell hbT 0
                have z1 : wr.cell? ⟨TB, 1, none⟩ = some (.int .u64 m2.nv) := box_cell hbT 1
                have z2 : wr.cell? ⟨TB, 2, none⟩ = some (.slice ah2 m2.homes.length ch2) := box_cell hbT 2
                have z3 : wr.cell? ⟨TB, 3, none⟩ = some (.slice as2 m2.seats.length cs2) := box_cell hbT 3
                have z4 : wr.cell? ⟨TB, 4, none⟩ = some (.int .u64 m2.ns) := box_cell hbT 4
                have z5 : wr.cell? ⟨TB, 5, none⟩ = some (.int .u64 m2.sweeps) := box_cell hbT 5
                have x0 : wr.cell? ⟨MB, 0, none⟩ = some (.slice ab1 m1.boxes.length cb1) := box_cell hbM 0
                have fx0 : wr.frozen? ⟨MB, 0, none⟩ = false := box_free hbM 0
                have x1 : wr.cell? ⟨MB, 1, none⟩ = some (.int .u64 m1.nv) := box_cell hbM 1
                have fx1 : wr.frozen? ⟨MB, 1, none⟩ = false := box_free hbM 1
                have x2 : wr.cell? ⟨MB, 2, none⟩ = some (.slice ah1 m1.homes.length ch1) := box_cell hbM 2
                have fx2 : wr.frozen? ⟨MB, 2, none⟩ = false := box_free hbM 2
                have x3 : wr.cell? ⟨MB, 3, none⟩ = some (.slice as1 m1.seats.length cs1) := box_cell hbM 3
                have fx3 : wr.frozen? ⟨MB, 3, none⟩ = false := box_free hbM 3
                have x4 : wr.cell? ⟨MB, 4, none⟩ = some (.int .u64 m1.ns) := box_cell hbM 4
                have fx4 : wr.frozen? ⟨MB, 4, none⟩ = false := box_free hbM 4
                have x5 : wr.cell? ⟨MB, 5, none⟩ = some (.int .u64 m1.sweeps) := box_cell hbM 5
                have fx5 : wr.frozen? ⟨MB, 5, none⟩ = false := box_free hbM 5
                have hzF := (hz.fillBox (B := MB) (C := [.slice ab1 m1.boxes.length cb1, .int .u64 m1.nv, .slice ah1 m1.homes.length ch1, .slice as1 m1.seats.length cs1, .int .u64 m1.ns, .int .u64 m1.sweeps]) (t := 27) 1 rfl [.slice ab2 m2.boxes.length cb2, .int .u64 m2.nv, .slice ah2 m2.homes.length ch2, .slice as2 m2.seats.length cs2, .int .u64 m2.ns, .int .u64 m2.sweeps] rfl).sub (L' := [boxT MB [.slice ab2 m2.boxes.length cb2, .int .u64 m2.nv, .slice ah2 m2.homes.length ch2, .slice as2 m2.seats.length cs2, .int .u64 m2.ns, .int .u64 m2.sweeps].toArray 27]) (List.Sublist.cons _ (List.Sublist.refl _))
                have hsF := (sD.setL (B := MB) (.head _) [.slice ab2 m2.boxes.length cb2, .int .u64 m2.nv, .slice ah2 m2.homes.length ch2, .slice as2 m2.seats.length cs2, .int .u64 m2.ns, .int .u64 m2.sweeps]).weak (ok2 := fun k => k ≠ MB) (fun k _ hk => hk MB (.head _))
                have hHF : HoldsS W MB m2 (wr.setCells MB 0 [.slice ab2 m2.boxes.length cb2, .int .u64 m2.nv, .slice ah2 m2.homes.length ch2, .slice as2 m2.seats.length cs2, .int .u64 m2.ns, .int .u64 m2.sweeps]) := ⟨_, hzF, hsF⟩
                simp only [World.setCells, Nat.zero_add] at hHF
                replace hHF := Lib.hid hHF
                have l200 := hl200.out
                clear hzF hsF hz sC sD hbM hbT
                go_wp2_with fail
                go_roundw
                case rel => exact ⟨i + 1, m2, by go_num, by omega, hr2, hHF⟩
                case measure => simp [intOf] <;> omega
      · obtain rfl : i = l.length := by omega
        obtain ⟨C1, hz, -⟩ := hH.out
        have hbF := Lib.hid hz.bel
        clear hz
        go_wp2_with fail
        go_ret
        first | exact ⟨rfl, hbF.out⟩ | (rw [← hMB.out]; exact ⟨rfl, hbF.out⟩)
end Go.Proofs.YtdobbfjmlnlieaaGreat
