/- MailRights: walked. (written by tools/gen_MnQ.py) -/
import Derived.Test.YtdobbfjmlnlieaaGreatB19
import Derived.Test.YtdobbfjmlnlieaaGreatB24
import Derived.Test.YtdobbfjmlnlieaaGreatB25
import Derived.Test.YtdobbfjmlnlieaaGreatB22
namespace Go.Proofs.YtdobbfjmlnlieaaGreat
set_option linter.unusedSimpArgs false
open Go.RowKit
attribute [local go_sem ↓] Go.wp_at_zero Go.wp_at_succ

theorem RqsIn.cells_at {W : World} {v : Value} {l : List RqP} (h : RqsIn W v l) {j : Nat} (hj : j < l.length) : ∃ b bo cap, v = .slice (some ⟨b, bo, none⟩) l.length cap ∧ b < W.heap.size ∧
    ∀ W', Below W.heap.size W W' → ∀ r u, (rqCells l[j].1 l[j].2)[r]? = some u → W'.cell? ⟨b, bo + j * 17 + r, none⟩ = some u := by
  obtain ⟨b, bo, cap, hv, -, hbl, hc⟩ := rqT.rd_cells h.1 hj
  refine ⟨b, bo, cap, hv, hbl, fun W' hb r u hu => ?_⟩
  rw [Nat.add_assoc]
  exact (hb.cell (p := ⟨b, bo + (j * 17 + r), none⟩) hbl).trans (hc r u hu)
set_option maxRecDepth 100000 in
set_option maxHeartbeats 16000000 in
theorem mailRights_any (v lv : Value) (W : World) (hv : ∃ m : Ml, MlIn W v m) (hl : ∃ l : List RqP, RqsIn W lv l) :
    Calls Tryz.prog 9 #[v, lv] W fun e w' => e = .returned (.bool true) ∧ Below W.heap.size W w' := by
  obtain ⟨m, hin⟩ := hv
  obtain ⟨l, hl⟩ := hl
  obtain ⟨ab_, cb_, nb_, ah_, ch_, as_, cs_, rfl⟩ := hin.out_
  obtain ⟨al, cl, hlv, -⟩ := hl.1
  subst hlv
  have hin0 : Hid (∀ w', Below W.heap.size W w' → MlIn w' (.agg #[.slice ab_ nb_ cb_, .int .u64 m.nv, .slice ah_ m.homes.length ch_, .slice as_ m.seats.length cs_, .int .u64 m.ns, .int .u64 m.sweeps]) m) := Lib.hid (fun w' h => hin.below h)
  have hl0 : Hid (RqsIn W (.slice al l.length cl) l) := Lib.hid hl
  have hll : Hid (∀ w', Below W.heap.size W w' → RqsIn w' (.slice al l.length cl) l) := Lib.hid (fun w' h => hl.below h)
  have hz1 := (Zoo.nil W).newBox [.slice ab_ nb_ cb_, .int .u64 m.nv, .slice ah_ m.homes.length ch_, .slice as_ m.seats.length cs_, .int .u64 m.ns, .int .u64 m.sweeps].toArray 27
  have hlt1 : W.heap.size < (W.alloc (.cells [.slice ab_ nb_ cb_, .int .u64 m.nv, .slice ah_ m.homes.length ch_, .slice as_ m.seats.length cs_, .int .u64 m.ns, .int .u64 m.sweeps].toArray 27)).heap.size := by simp
  have hbd1 : Below W.heap.size W (W.alloc (.cells [.slice ab_ nb_ cb_, .int .u64 m.nv, .slice ah_ m.homes.length ch_, .slice as_ m.seats.length cs_, .int .u64 m.ns, .int .u64 m.sweeps].toArray 27)) := hz1.bel
  have hst1 := (stay_new hin).below hbd1
  generalize hMB : W.heap.size = MB at hz1 hst1 hlt1 hbd1
  generalize hWa : (W.alloc (.cells [.slice ab_ nb_ cb_, .int .u64 m.nv, .slice ah_ m.homes.length ch_, .slice as_ m.seats.length cs_, .int .u64 m.ns, .int .u64 m.sweeps].toArray 27)) = Wa at hz1 hst1 hlt1 hbd1
  replace hz1 := Lib.hid hz1
  replace hst1 := Lib.hid hst1
  replace hbd1 := Lib.hid hbd1
  replace hlt1 := Lib.hid hlt1
  clear hin hl
  go_enter Tryz.func9, Tryz.ntmps9
  go_upto_region 1 with fail
  clear hWa
  rw [← hMB] at hbd1
  replace hMB := Lib.hid hMB
  go_wp2_with fail
  refine (alive_any _).mono ?_
  rintro e w1 ⟨rfl, hb1⟩
  dsimp only
  have hz2 := Lib.hid (hz1.out.below hb1.out)
  have hst2 := Lib.hid (hst1.out.below hb1.out)
  have hlt2 := Lib.hid (Nat.lt_of_lt_of_le hlt1.out hb1.out.size)
  have hbd2 : Hid (Below W.heap.size W w1) := Lib.hid hz2.out.bel
  obtain ⟨hbM, -⟩ := hz2.out.box 0 rfl
  have x0 : w1.cell? ⟨MB, 0, none⟩ = some (.slice ab_ nb_ cb_) := box_cell hbM 0
  have x1 : w1.cell? ⟨MB, 1, none⟩ = some (.int .u64 m.nv) := box_cell hbM 1
  have x2 : w1.cell? ⟨MB, 2, none⟩ = some (.slice ah_ m.homes.length ch_) := box_cell hbM 2
  have x3 : w1.cell? ⟨MB, 3, none⟩ = some (.slice as_ m.seats.length cs_) := box_cell hbM 3
  have x4 : w1.cell? ⟨MB, 4, none⟩ = some (.int .u64 m.ns) := box_cell hbM 4
  have x5 : w1.cell? ⟨MB, 5, none⟩ = some (.int .u64 m.sweeps) := box_cell hbM 5
  clear hbM hz1 hst1 hlt1 hbd1 hb1
  go_wp2_with fail
  refine (light_any _ _ (hin0.out w1 hbd2.out) (hll.out w1 hbd2.out)).mono ?_
  rintro e w2 ⟨rfl, hb2⟩
  dsimp only
  have hz3 := Lib.hid (hz2.out.below hb2.out)
  have hst3 := Lib.hid (hst2.out.below hb2.out)
  have hlt3 := Lib.hid (Nat.lt_of_lt_of_le hlt2.out hb2.out.size)
  have hbd3 : Hid (Below W.heap.size W w2) := Lib.hid hz3.out.bel
  obtain ⟨hbM, -⟩ := hz3.out.box 0 rfl
  clear x0 x1 x2 x3 x4 x5 hb2 hz2 hst2 hlt2 hbd2
  have x0 : w2.cell? ⟨MB, 0, none⟩ = some (.slice ab_ nb_ cb_) := box_cell hbM 0
  have x1 : w2.cell? ⟨MB, 1, none⟩ = some (.int .u64 m.nv) := box_cell hbM 1
  have x2 : w2.cell? ⟨MB, 2, none⟩ = some (.slice ah_ m.homes.length ch_) := box_cell hbM 2
  have x3 : w2.cell? ⟨MB, 3, none⟩ = some (.slice as_ m.seats.length cs_) := box_cell hbM 3
  have x4 : w2.cell? ⟨MB, 4, none⟩ = some (.int .u64 m.ns) := box_cell hbM 4
  have x5 : w2.cell? ⟨MB, 5, none⟩ = some (.int .u64 m.sweeps) := box_cell hbM 5
  clear hbM
  generalize hB : lightB m (l.map (·.1)) = B
  replace hB := Lib.hid hB
  cases B with
  | false =>
    go_wp2_with fail
    refine (alive_any _).mono ?_
    rintro e w3 ⟨rfl, hb3⟩
    dsimp only
    have hbF := Lib.hid (hz3.out.below hb3.out).bel
    clear x0 x1 x2 x3 x4 x5 hz3
    go_wp2_with fail
    go_ret
    first | exact ⟨rfl, hbF.out⟩ | (rw [← hMB.out]; exact ⟨rfl, hbF.out⟩)
  | true =>
    go_wp2_with fail
    refine (begun_any _ (hin0.out w2 hbd3.out) (light_ask hB.out)).mono ?_
    intro e w3 hbr
    obtain ⟨C0, m0, rfl, hr0, hs0, hb3⟩ := hbr.right hst3.out hlt3.out
    obtain ⟨ab0, cb0, nb0, ah0, ch0, as0, cs0, rfl⟩ := hs0.now.shape
    dsimp only
    have hz4 := Lib.hid (hz3.out.below hb3)
    replace hr0 := Lib.hid hr0
    replace hs0 := Lib.hid hs0
    obtain ⟨hbM, -⟩ := hz4.out.box 0 rfl
    clear x0 x1 x2 x3 x4 x5 hbr hz3 hst3 hbd3
    have x0 : w3.cell? ⟨MB, 0, none⟩ = some (.slice ab_ nb_ cb_) := box_cell hbM 0
    have fx0 : w3.frozen? ⟨MB, 0, none⟩ = false := box_free hbM 0
    have x1 : w3.cell? ⟨MB, 1, none⟩ = some (.int .u64 m.nv) := box_cell hbM 1
    have fx1 : w3.frozen? ⟨MB, 1, none⟩ = false := box_free hbM 1
    have x2 : w3.cell? ⟨MB, 2, none⟩ = some (.slice ah_ m.homes.length ch_) := box_cell hbM 2
    have fx2 : w3.frozen? ⟨MB, 2, none⟩ = false := box_free hbM 2
    have x3 : w3.cell? ⟨MB, 3, none⟩ = some (.slice as_ m.seats.length cs_) := box_cell hbM 3
    have fx3 : w3.frozen? ⟨MB, 3, none⟩ = false := box_free hbM 3
    have x4 : w3.cell? ⟨MB, 4, none⟩ = some (.int .u64 m.ns) := box_cell hbM 4
    have fx4 : w3.frozen? ⟨MB, 4, none⟩ = false := box_free hbM 4
    have x5 : w3.cell? ⟨MB, 5, none⟩ = some (.int .u64 m.sweeps) := box_cell hbM 5
    have fx5 : w3.frozen? ⟨MB, 5, none⟩ = false := box_free hbM 5
    have hrq := Lib.hid (light_rq hB.out)
    have hl200 : Hid (l.length ≤ 200) := Lib.hid (by have := (light_parts hB.out).2.2.2.1; rw [List.length_map] at this; exact this)
    have hlt4 := Lib.hid (Nat.lt_of_lt_of_le hlt3.out hb3.size)
    have hzF := hz4.out.fillBox (C := [.slice ab_ nb_ cb_, .int .u64 m.nv, .slice ah_ m.homes.length ch_, .slice as_ m.seats.length cs_, .int .u64 m.ns, .int .u64 m.sweeps]) 0 rfl [.slice ab0 nb0 cb0, .int .u64 m0.nv, .slice ah0 m0.homes.length ch0, .slice as0 m0.seats.length cs0, .int .u64 m0.ns, .int .u64 m0.sweeps] rfl
    have hsF := hs0.out.sets MB [.slice ab0 nb0 cb0, .int .u64 m0.nv, .slice ah0 m0.homes.length ch0, .slice as0 m0.seats.length cs0, .int .u64 m0.ns, .int .u64 m0.sweeps] (fun k hk _ => hk)
    have hkF := KeptB.sets [.slice ab0 nb0 cb0, .int .u64 m0.nv, .slice ah0 m0.homes.length ch0, .slice as0 m0.seats.length cs0, .int .u64 m0.ns, .int .u64 m0.sweeps] 0 (KeptB.refl w3 MB)
    have hlF := Nat.lt_of_lt_of_eq hlt4.out hkF.size.symm
    have hH : HoldsS W MB m0 (w3.setCells MB 0 [.slice ab0 nb0 cb0, .int .u64 m0.nv, .slice ah0 m0.homes.length ch0, .slice as0 m0.seats.length cs0, .int .u64 m0.ns, .int .u64 m0.sweeps]) := ⟨_, hzF, hsF⟩
    simp only [World.setCells, Nat.zero_add] at hH hlF
    replace hH := Lib.hid hH
    replace hlF := Lib.hid hlF
    clear hbM hz4 hs0 hb3 hzF hsF hkF hB hin0 hll hlt3 hlt4
    go_wp2_with fail
    have h200 := hl200.out
    clear x0 x1 x2 x3 x4 x5 fx0 fx1 fx2 fx3 fx4 fx5
    go_loopw [5] (fun v5 wr => ∃ (i : Nat) (m1 : Ml), v5 = .int .i64 i ∧ i ≤ l.length ∧ Hid (RightP m1) ∧ Hid (MB < wr.heap.size) ∧ Hid (HoldsS W MB m1 wr)) (fun v5 _ => l.length - (intOf v5).toNat)
    case atStart => exact ⟨0, m0, rfl, Nat.zero_le _, hr0, hlF, hH⟩
    case round =>
      clear hr0 hlF hH
      obtain ⟨i, m1, rfl, hi, hr1, hlt5, hH⟩ := hrel
      by_cases hlt : i < l.length
      · obtain ⟨C1, hz, hs⟩ := hH.out
        clear hH
        obtain ⟨ab1, cb1, nb1, ah1, ch1, as1, cs1, rfl⟩ := hs.now.shape
        obtain ⟨b, bo, cap, hv, hbW, hc⟩ := hl0.out.cells_at hlt
        injection hv with hv1 hv2 hv3
        subst hv1 hv3
        have hqo := hrq.out _ (List.mem_map_of_mem (f := (·.1)) (List.getElem_mem hlt))
        have hqi : ∀ w', Below W.heap.size W w' → RqIn w' l[i].1 l[i].2 := fun w' hb => (hl0.out.below hb).2 _ (List.getElem_mem hlt)
        obtain ⟨q, hq⟩ : ∃ q, l[i].1 = q := ⟨_, rfl⟩
        obtain ⟨y, hy⟩ : ∃ y, l[i].2 = y := ⟨_, rfl⟩
        rw [hq, hy] at hc hqi
        have hqo : RqOk q := by rw [← hq]; exact hqo
        replace hqo := Lib.hid hqo
        replace hqi := Lib.hid hqi
        replace hc := Lib.hid hc
        have hi0 : (0 : Int) ≤ (i : Int) := by omega
        have hi1 : (i : Int) < (l.length : Int) := by omega
        have hzd := hz.drew
        have hsd := hs.below ((Below.refl _ _).drew)
        have hld : MB < wr.drew.heap.size := hlt5.out
        have hSn := Lib.hid (And.intro (hzd.box 0 rfl).1 hzd.bel)
        replace hzd := Lib.hid hzd
        replace hsd := Lib.hid hsd
        replace hld := Lib.hid hld
        clear hz hs hq hy hbW hlt5
        go_upto_region 7 with fail
        refine wp_region_hdP 9 (fun bb w' => Hid (bb = false → w'.heap[MB]? = some (.cells [.slice ab1 nb1 cb1, .int .u64 m1.nv, .slice ah1 m1.homes.length ch1, .slice as1 m1.seats.length cs1, .int .u64 m1.ns, .int .u64 m1.sweeps].toArray 27 (0, 0)) ∧ Below W.heap.size W w')) 10 0 (by kernel_rfl) rfl ⟨by kernel_rfl, by kernel_rfl⟩ (Lib.hid fun _ => hSn.out) (fun hok hS0 => ?_)
        clear hS0
        generalize wr.drew = Wd at *
        refine HdP.take (i := 0) (v := .agg [.slice ab1 nb1 cb1, .int .u64 m1.nv, .slice ah1 m1.homes.length ch1, .slice as1 m1.seats.length cs1, .int .u64 m1.ns, .int .u64 m1.sweeps].toArray) hok rfl (by kernel_rfl) (fun _ _ _ h => h) (by decide) (yields_load_cells 27 (.tmp 2) rfl MB 0 [.slice ab1 nb1 cb1, .int .u64 m1.nv, .slice ah1 m1.homes.length ch1, .slice as1 m1.seats.length cs1, .int .u64 m1.ns, .int .u64 m1.sweeps] (by rfl) Tryz.isAgg27 Tryz.sizeOf27 rfl (fun W hS j v hj => by rw [Nat.zero_add, box_cell ((hS.early (by kernel_rfl)).out rfl).1 j, List.getElem?_toArray]; exact hj)) (Lib.hid fun _ => hSn.out) ?_
        try simp only [List.getElem_toArray, List.getElem_cons_succ, List.getElem_cons_zero, Act.put, List.setIfInBounds_toArray, List.set_cons_zero, List.set_cons_succ]
        refine HdP.take (i := 1) (v := ?tv422) hok rfl (by kernel_rfl) (fun _ _ _ h => h) (by decide) (Or.inl ⟨by rfl, ?ty422⟩) (Lib.hid fun _ => hSn.out) ?tr422
        case ty422 => (intro w hSw; clear hSw; go_simp; (try with_reducible rfl))
        try simp only [List.getElem_toArray, List.getElem_cons_succ, List.getElem_cons_zero, Act.put, List.setIfInBounds_toArray, List.set_cons_zero, List.set_cons_succ]
        refine HdP.take (i := 2) (v := ?tv423) hok rfl (by kernel_rfl) (fun _ _ _ h => h) (by decide) (Or.inl ⟨by rfl, ?ty423⟩) (Lib.hid fun _ => hSn.out) ?tr423
        case ty423 => (intro w hSw; clear hSw; go_simp; (try with_reducible rfl))
        try simp only [List.getElem_toArray, List.getElem_cons_succ, List.getElem_cons_zero, Act.put, List.setIfInBounds_toArray, List.set_cons_zero, List.set_cons_succ]
        refine HdP.take (i := 3) (v := ?tv424) hok rfl (by kernel_rfl) (fun _ _ _ h => h) (by decide) (Or.inl ⟨by rfl, ?ty424⟩) (Lib.hid fun _ => hSn.out) ?tr424
        case ty424 => (intro w hSw; clear hSw; go_simp; (try with_reducible rfl))
        try simp only [List.getElem_toArray, List.getElem_cons_succ, List.getElem_cons_zero, Act.put, List.setIfInBounds_toArray, List.set_cons_zero, List.set_cons_succ]
        refine HdP.take (i := 4) (v := .agg (rqCells q y).toArray) hok rfl (by kernel_rfl) (fun _ _ _ h => h) (by decide) (yields_load_cells 41 (.tmp 27) rfl b (bo + i * 17) (rqCells q y) (by rfl) Tryz.isAgg41 Tryz.sizeOf41 rfl (fun W hS j v hj => hc.out W ((hS.early (by kernel_rfl)).out rfl).2 j v hj)) (Lib.hid fun _ => hSn.out) ?_
        try simp only [List.getElem_toArray, List.getElem_cons_succ, List.getElem_cons_zero, Act.put, List.setIfInBounds_toArray, List.set_cons_zero, List.set_cons_succ]
        refine HdP.one (i := 5) rfl (by kernel_rfl) (fun K hK => ?_)
        go_simp
        refine (apply_any _ hsd.out.now hr1.out.ap (hqi.out Wd hSn.out.2) hqo.out).mono ?_
        rintro e w5 ⟨v5, o5, rfl, hv5, ho5, hb5⟩
        dsimp only
        obtain ⟨ab2, cb2, nb2, ah2, ch2, as2, cs2, rfl⟩ := hv5.out.now.out_
        have hz5 := hzd.out.below hb5.out
        have hs5 : Stay (fun k => k ≠ MB) w5 _ := hv5.out.weak (fun k _ hk => by have h1 : Wd.heap.size ≤ k := hk; have h2 := hld.out; omega)
        have hl5 := Nat.lt_of_lt_of_le hld.out hb5.out.size
        replace hSn := Lib.hid (And.intro (hz5.box 0 rfl).1 hz5.bel)
        refine hK _ _ (Lib.hid fun _ => hSn.out) ?_
        clear hK K
        try simp only [List.getElem_toArray, List.getElem_cons_succ, List.getElem_cons_zero, Act.put, List.setIfInBounds_toArray, List.set_cons_zero, List.set_cons_succ]
        refine HdP.take (i := 6) (v := ?tv425) hok rfl (by kernel_rfl) (fun _ _ _ h => h) (by decide) (Or.inl ⟨by rfl, ?ty425⟩) (Lib.hid fun _ => hSn.out) ?tr425
        case ty425 => (intro w hSw; clear hSw; go_simp; (try with_reducible rfl))
        try simp only [List.getElem_toArray, List.getElem_cons_succ, List.getElem_cons_zero, Act.put, List.setIfInBounds_toArray, List.set_cons_zero, List.set_cons_succ]
        refine HdP.take (i := 7) (v := ?tv426) hok rfl (by kernel_rfl) (fun _ _ _ h => h) (by decide) (Or.inl ⟨by rfl, ?ty426⟩) (Lib.hid fun _ => hSn.out) ?tr426
        case ty426 => (intro w hSw; clear hSw; go_simp; (try with_reducible rfl))
        try simp only [List.getElem_toArray, List.getElem_cons_succ, List.getElem_cons_zero, Act.put, List.setIfInBounds_toArray, List.set_cons_zero, List.set_cons_succ]
        refine HdP.take (i := 8) (v := ?tv427) hok rfl (by kernel_rfl) (fun _ _ _ h => h) (by decide) (Or.inl ⟨by rfl, ?ty427⟩) (Lib.hid fun _ => hSn.out) ?tr427
        case ty427 => (intro w hSw; clear hSw; go_simp; (try with_reducible rfl))
        try simp only [List.getElem_toArray, List.getElem_cons_succ, List.getElem_cons_zero, Act.put, List.setIfInBounds_toArray, List.set_cons_zero, List.set_cons_succ]
        refine HdP.one (i := 9) rfl (by kernel_rfl) (fun K hK => ?_)
        have hs1 := hz5.boxSome (C := [.slice ab1 nb1 cb1, .int .u64 m1.nv, .slice ah1 m1.homes.length ch1, .slice as1 m1.seats.length cs1, .int .u64 m1.ns, .int .u64 m1.sweeps]) 0 rfl
        refine wp_store_op rfl 27 (.tmp 2) (.tmp 30) rfl MB 0 [.slice ab2 nb2 cb2, .int .u64 (applyM m1 q).1.nv, .slice ah2 (applyM m1 q).1.homes.length ch2, .slice as2 (applyM m1 q).1.seats.length cs2, .int .u64 (applyM m1 q).1.ns, .int .u64 (applyM m1 q).1.sweeps] rfl rfl Tryz.sizeOf27 (al_one6 _ _ _ _ _ _ _ _ _ _ _ _) hs1.1 hs1.2 ?_
        have hz6 := Lib.hid (hz5.fillBox (C := [.slice ab1 nb1 cb1, .int .u64 m1.nv, .slice ah1 m1.homes.length ch1, .slice as1 m1.seats.length cs1, .int .u64 m1.ns, .int .u64 m1.sweeps]) 0 rfl [.slice ab2 nb2 cb2, .int .u64 (applyM m1 q).1.nv, .slice ah2 (applyM m1 q).1.homes.length ch2, .slice as2 (applyM m1 q).1.seats.length cs2, .int .u64 (applyM m1 q).1.ns, .int .u64 (applyM m1 q).1.sweeps] rfl)
        have hs6 := Lib.hid (hs5.sets MB [.slice ab2 nb2 cb2, .int .u64 (applyM m1 q).1.nv, .slice ah2 (applyM m1 q).1.homes.length ch2, .slice as2 (applyM m1 q).1.seats.length cs2, .int .u64 (applyM m1 q).1.ns, .int .u64 (applyM m1 q).1.sweeps] (fun k hk _ => hk))
        have hl6 := Lib.hid (Nat.lt_of_lt_of_eq hl5 (KeptB.sets [.slice ab2 nb2 cb2, .int .u64 (applyM m1 q).1.nv, .slice ah2 (applyM m1 q).1.homes.length ch2, .slice as2 (applyM m1 q).1.seats.length cs2, .int .u64 (applyM m1 q).1.ns, .int .u64 (applyM m1 q).1.sweeps] 0 (KeptB.refl w5 MB)).size.symm)
        have hr6 := Lib.hid (apply_right q hr1.out)
        clear hs1 hz5 hs5 hl5 hzd hsd hld hc hqi hqo
        generalize w5.setCells MB 0 [.slice ab2 nb2 cb2, .int .u64 (applyM m1 q).1.nv, .slice ah2 (applyM m1 q).1.homes.length ch2, .slice as2 (applyM m1 q).1.seats.length cs2, .int .u64 (applyM m1 q).1.ns, .int .u64 (applyM m1 q).1.sweeps] = w6 at hz6 hs6 hl6 ⊢
        refine hK _ _ (Lib.hid fun h => Bool.noConfusion (h.symm.trans (by kernel_rfl : _ = true))) ?_
        clear hK K hSn
        try simp only [List.getElem_toArray, List.getElem_cons_succ, List.getElem_cons_zero, Act.put, List.setIfInBounds_toArray, List.set_cons_zero, List.set_cons_succ]
        refine HdP.done (by kernel_rfl) ?_
        simp only [List.drop_succ_cons, List.drop_nil, List.drop_zero]
        obtain ⟨hbM, -⟩ := hz6.out.box 0 rfl
        have z0 : w6.cell? ⟨MB, 0, none⟩ = some (.slice ab2 nb2 cb2) := box_cell hbM 0
        have z1 : w6.cell? ⟨MB, 1, none⟩ = some (.int .u64 (applyM m1 q).1.nv) := box_cell hbM 1
        have z2 : w6.cell? ⟨MB, 2, none⟩ = some (.slice ah2 (applyM m1 q).1.homes.length ch2) := box_cell hbM 2
        have z3 : w6.cell? ⟨MB, 3, none⟩ = some (.slice as2 (applyM m1 q).1.seats.length cs2) := box_cell hbM 3
        have z4 : w6.cell? ⟨MB, 4, none⟩ = some (.int .u64 (applyM m1 q).1.ns) := box_cell hbM 4
        have z5 : w6.cell? ⟨MB, 5, none⟩ = some (.int .u64 (applyM m1 q).1.sweeps) := box_cell hbM 5
        clear hbM hok hb5 hv5 ho5
        go_wp2_with fail
        refine (right_yes _ hs6.out.now hr6.out).mono ?_
        rintro e w7 ⟨rfl, hb7⟩
        dsimp only
        have hl7 := Lib.hid (Nat.lt_of_lt_of_le hl6.out hb7.out.size)
        have hH7 : Hid (HoldsS W MB (applyM m1 q).1 w7) := Lib.hid ⟨_, hz6.out.below hb7.out, hs6.out.below hb7.out⟩
        clear z0 z1 z2 z3 z4 z5 hz6 hs6 hl6 hb7
        go_wp2_with fail
        go_roundw
        case rel => exact ⟨i + 1, (applyM m1 q).1, by go_num, by omega, hr6, hl7, hH7⟩
        case measure => simp [intOf] <;> omega
      · obtain rfl : i = l.length := by omega
        obtain ⟨C1, hz, -⟩ := hH.out
        have hbF := Lib.hid hz.bel
        clear hz
        go_wp2_with fail
        go_ret
        first | exact ⟨rfl, hbF.out⟩ | (rw [← hMB.out]; exact ⟨rfl, hbF.out⟩)
end Go.Proofs.YtdobbfjmlnlieaaGreat
