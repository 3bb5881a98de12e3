/- ViewQuiet: walked. ViewQuiet as its card calls it. -/
import Derived.Test.YtcnebfmlelcliaaGreatB26
namespace Go.Proofs.YtcnebfmlelcliaaGreat
set_option linter.unusedSimpArgs false
open Go.RowKit
attribute [local go_sem ↓] Go.wp_at_zero Go.wp_at_succ

set_option maxRecDepth 100000 in
set_option maxHeartbeats 32000000 in
theorem viewQuiet_walk (s : ByteArray) (val : Nat) (l0 : List (Nat × Nat)) (vr lv : Value) (v : Value) (m : Ml) (l : List RqP) (expunge cond : Bool) (W : World) (hk : RangesIn W W.heap.size vr l0) (hin : MlIn W v m) (hl : RqsIn W lv l) :
    Calls Tryz.prog 5 #[.agg #[.string s, .int .u64 val, vr], v, lv, .bool expunge, .bool cond] W fun e w' => e = .returned (.bool true) ∧ Below W.heap.size W w' := by
  have hk0 := Lib.hid (fun (w' : World) (h : Below W.heap.size W w') => hk.on h)
  have hl0 := Lib.hid (fun (w' : World) (h : Below W.heap.size W w') => hl.below h)
  have hi0 := Lib.hid (fun (w' : World) (h : Below W.heap.size W w') => hin.below h)
  obtain ⟨ab, cb, nb, ah, ch, as_, cs, rfl⟩ := hin.out_
  obtain ⟨av, cv, hv, -⟩ := hk
  subst hv
  obtain ⟨al, cl, hv, -⟩ := hl.1
  subst hv
  have hz1 := (Zoo.nil W).newBox [.string s, .int .u64 val, .slice av l0.length cv].toArray 38
  have lt1 := ltL_alloc (L := []) (w := W) (fun b hb => by cases hb) (.cells [.string s, .int .u64 val, .slice av l0.length cv].toArray 38)
  generalize hVB : W.heap.size = VB at hz1 lt1
  generalize hWa : (W.alloc (.cells [.string s, .int .u64 val, .slice av l0.length cv].toArray 38)) = Wa at hz1 lt1
  have hz2 := hz1.newBox (sC ab nb cb m ah ch as_ cs).toArray 27
  have lt2 := ltL_alloc lt1 (.cells (sC ab nb cb m ah ch as_ cs).toArray 27)
  generalize hMB : Wa.heap.size = MB at hz2 lt2
  generalize hWb : (Wa.alloc (.cells (sC ab nb cb m ah ch as_ cs).toArray 27)) = Wb at hz2 lt2
  unfold sC at hWb
  have hal := Lib.hid (aliveV_any Wb)
  replace hz2 := Lib.hid hz2
  replace lt2 := Lib.hid lt2
  clear hz1 lt1 hin hl
  go_enter Tryz.func5, Tryz.ntmps5
  go_upto_region 1 with fail
  clear hWa hWb hMB
  go_wp2_with fail
  refine hal.out.mono ?_
  rintro e w1 ⟨rfl, hb1⟩
  have hz3 := Lib.hid (hz2.out.below hb1.out)
  have lt3 := Lib.hid (ltL_below lt2.out hb1.out.size)
  clear hal hz2 lt2 hb1
  obtain ⟨hbM, -⟩ := hz3.out.box 0 rfl
  have x0 : w1.cell? ⟨MB, 0, none⟩ = some (.slice ab nb cb) := box_cell hbM 0
  have x1 : w1.cell? ⟨MB, 1, none⟩ = some (.int .u64 m.nv) := box_cell hbM 1
  have x2 : w1.cell? ⟨MB, 2, none⟩ = some (.slice ah m.homes.length ch) := box_cell hbM 2
  have x3 : w1.cell? ⟨MB, 3, none⟩ = some (.slice as_ m.seats.length cs) := box_cell hbM 3
  have x4 : w1.cell? ⟨MB, 4, none⟩ = some (.int .u64 m.ns) := box_cell hbM 4
  have x5 : w1.cell? ⟨MB, 5, none⟩ = some (.int .u64 m.sweeps) := box_cell hbM 5
  have hgr := Lib.hid (great_any_vw _ _ (hi0.out w1 hz3.out.bel) (hl0.out w1 hz3.out.bel))
  clear hbM
  go_wp2_with fail
  refine hgr.out.mono ?_
  rintro e w2 ⟨rfl, hb2⟩
  have hz4 := Lib.hid (hz3.out.below hb2.out)
  have lt4 := Lib.hid (ltL_below lt3.out hb2.out.size)
  clear hgr hz3 lt3 hb2 x0 x1 x2 x3 x4 x5
  have hal2 := Lib.hid (aliveV_any w2)
  cases hL : lightB m (l.map (·.1)) with
  | false =>
    replace hL := Lib.hid hL
    go_wp2_with fail
    refine hal2.out.mono ?_
    rintro e w3 ⟨rfl, hb3⟩
    have hbE := Lib.hid (hz4.out.below hb3.out).bel
    go_wp2_with fail
    go_ret
    exact ⟨rfl, by first | exact hbE.out | (rw [← hVB]; exact hbE.out)⟩
  | true =>
    have hask := Lib.hid (light_ask hL)
    have hrq := Lib.hid (light_rq hL)
    have hlp := Lib.hid (light_parts hL)
    replace hL := Lib.hid hL
    obtain ⟨hbV, -⟩ := hz4.out.box 1 rfl
    have v2 : w2.cell? ⟨VB, 2, none⟩ = some (.slice av l0.length cv) := box_cell hbV 2
    clear hbV
    by_cases c1 : 300 < l0.length
    · have c1' : (300 : Int) < (l0.length : Int) := by omega
      go_wp2_with fail
      refine hal2.out.mono ?_
      rintro e w3 ⟨rfl, hb3⟩
      have hbE := Lib.hid (hz4.out.below hb3.out).bel
      go_wp2_with fail
      go_ret
      exact ⟨rfl, by first | exact hbE.out | (rw [← hVB]; exact hbE.out)⟩
    have c1' : ¬ (300 : Int) < (l0.length : Int) := by omega
    have c1b : l0.length ≤ 300 := by omega
    clear c1 hal2 hL
    obtain ⟨hbM, -⟩ := hz4.out.box 0 rfl
    have x0 : w2.cell? ⟨MB, 0, none⟩ = some (.slice ab nb cb) := box_cell hbM 0
    have x1 : w2.cell? ⟨MB, 1, none⟩ = some (.int .u64 m.nv) := box_cell hbM 1
    have x2 : w2.cell? ⟨MB, 2, none⟩ = some (.slice ah m.homes.length ch) := box_cell hbM 2
    have x3 : w2.cell? ⟨MB, 3, none⟩ = some (.slice as_ m.seats.length cs) := box_cell hbM 3
    have x4 : w2.cell? ⟨MB, 4, none⟩ = some (.int .u64 m.ns) := box_cell hbM 4
    have x5 : w2.cell? ⟨MB, 5, none⟩ = some (.int .u64 m.sweeps) := box_cell hbM 5
    have stm : Stay (okL [MB, VB]) w2 fun x => MlIn x (.agg (sC ab nb cb m ah ch as_ cs).toArray) m := (hi0.out W (Below.refl _ _)).stayL hz4.out.bel (fun b hb => by
      rcases List.mem_cons.1 hb with rfl | hb
      · exact (hz4.out.box 0 rfl).2
      · rw [List.mem_singleton.1 hb]; exact (hz4.out.box 1 rfl).2)
    have hbg := Lib.hid (begunV_any _ lt4.out stm hask.out)
    unfold sC at hbg
    clear hbM stm
    go_upto_region 3 with fail
    clear c1' v2
    go_wp2_with fail
    refine hbg.out.mono ?_
    rintro e w3 ⟨sv, z, m0, rfl, hr0, hf0, hs0, hz0, hb3⟩
    obtain ⟨C0, hC0, hC6, hC1⟩ : ∃ C0 : List Value, sv = .agg C0.toArray ∧ C0.length = 6 ∧ ∀ v ∈ C0, v.oneCell' = true := by
      obtain ⟨ab1, cb1, nb1, ah1, ch1, as1, cs1, h⟩ := hs0.out.now.out_
      refine ⟨_, h, rfl, fun v hv => ?_⟩
      simp only [List.mem_cons, List.not_mem_nil, or_false] at hv
      rcases hv with rfl | rfl | rfl | rfl | rfl | rfl <;> rfl
    subst hC0
    obtain ⟨nm, vl, nx, hi, rows, az, cz⟩ := z
    unfold bxAgg bxCells BxV.v
    dsimp only
    have hz6 := (hz4.out.below hb3.out).newBox zBx.toArray 33
    have hs6 := hs0.out.allocL (.cells zBx.toArray 33)
    have hl6 := hz0.out.allocL (.cells zBx.toArray 33)
    have lt6 := ltL_alloc (ltL_below lt4.out hb3.out.size) (.cells zBx.toArray 33)
    generalize hQB : w3.heap.size = QB at hz6 hs6 hl6 lt6
    generalize hWe : (w3.alloc (.cells zBx.toArray 33)) = w4 at hz6 hs6 hl6 lt6
    unfold zBx at hWe
    have hsm := hz6.boxSome 1 rfl
    have hz7 := hz6.fillBox 1 rfl C0 (by rw [hC6]; rfl)
    have hs7 := hs6.setL (B := MB) (by simp) C0
    have hl7 := hl6.setL (B := MB) (by simp) C0
    have lt7 := ltL_below lt6 (Nat.le_of_eq (KeptB.sets C0 0 (KeptB.refl w4 MB)).size.symm)
    have hm1 : Hid (∀ j, j < C0.length → (w4.cell? ⟨MB, 0 + j, none⟩).isSome = true) := Lib.hid (by rw [hC6]; exact hsm.1)
    have hm2 := Lib.hid hsm.2
    have hsz := Lib.hid (fun w : World => (show (Go.sizeOf 27).run Tryz.prog w = .ok C0.length w from by rw [hC6]; exact Tryz.sizeOf27 w))
    replace hC1 := Lib.hid hC1
    replace hC6 := Lib.hid hC6
    replace hz7 := Lib.hid hz7
    replace hs7 := Lib.hid hs7
    replace hl7 := Lib.hid hl7
    replace lt7 := Lib.hid lt7
    clear hz6 hs6 hl6 lt6 x0 x1 x2 x3 x4 x5 hbg hb3 hs0 hz0 hsm hz4 lt4
    go_wp2_with (refine wpList_store_cells rfl 27 (.tmp 6) (.tmp 35) rfl MB 0 C0 rfl rfl hsz.out hC1.out hm1.out hm2.out ?_; refine Hid.out ?_)
    refine Lib.hid ?_
    generalize w4.setCells MB 0 C0 = w5 at hz7 hs7 hl7 lt7 ⊢
    clear hWe hm1 hm2
    obtain ⟨hbQ, -⟩ := hz7.out.box 0 rfl
    have y0 := box_cell hbQ 0
    have y1 := box_cell hbQ 1
    have y2 := box_cell hbQ 2
    have y3 := box_cell hbQ 3
    have y4 := box_cell hbQ 4
    simp [zBx] at y0 y1 y2 y3 y4
    have f0 := box_free hbQ 0
    have f1 := box_free hbQ 1
    have f2 := box_free hbQ 2
    have f3 := box_free hbQ 3
    have f4 := box_free hbQ 4
    have hz8 := Lib.hid (hz7.out.fillBox 0 rfl [.string nm, .int .u64 vl, .int .u64 nx, .int .u64 hi, .slice az rows.length cz] rfl)
    have hs8 := Lib.hid (hs7.out.setL (B := QB) (by simp) [.string nm, .int .u64 vl, .int .u64 nx, .int .u64 hi, .slice az rows.length cz])
    have hl8 := Lib.hid (hl7.out.setL (B := QB) (by simp) [.string nm, .int .u64 vl, .int .u64 nx, .int .u64 hi, .slice az rows.length cz])
    have lt8 := Lib.hid (ltL_below lt7.out (Nat.le_of_eq (KeptB.sets [.string nm, .int .u64 vl, .int .u64 nx, .int .u64 hi, .slice az rows.length cz] 0 (KeptB.refl w5 QB)).size.symm))
    simp only [World.setCells, Nat.zero_add] at hz8 hs8 hl8 lt8
    clear hbQ
    go_upto_region 4 with fail
    clear y0 y1 y2 y3 y4 f0 f1 f2 f3 f4 hz7 hs7 hl7 lt7
    generalize ((((w5.setCell ⟨QB, 0, none⟩ _).setCell ⟨QB, 1, none⟩ _).setCell ⟨QB, 2, none⟩ _).setCell ⟨QB, 3, none⟩ _).setCell ⟨QB, 4, none⟩ _ = w6 at hz8 hs8 hl8 lt8 ⊢
    have hzd := hz8.out.drew
    have hdr := (Below.refl w6.heap.size w6).drew
    have hsd := hs8.out.below hdr
    have hld := hl8.out.below hdr
    have ltd := ltL_below lt8.out hdr.size
    obtain ⟨hbQ, -⟩ := hzd.box 0 rfl
    refine wp_region_hd (fun w' => w'.cell? ⟨QB, 0, none⟩ = some (.string nm) ∧ w'.cell? ⟨QB, 1, none⟩ = some (.int .u64 vl)) 6 2 (by kernel_rfl) rfl ⟨by kernel_rfl, by kernel_rfl, by kernel_rfl, by decide⟩ ⟨box_cell hbQ 0, box_cell hbQ 1⟩ (fun hok hS0 => ?_)
    generalize w6.drew = wd at *
    refine Hd.take (i := 0) (v := ?tv325) hok rfl (by kernel_rfl) (fun _ _ _ h => h) (Or.inl ⟨by rfl, ?ty325⟩) (by assumption) ?tr325
    case ty325 => (intro w hSw; (try dsimp only at hSw); go_simp; (try with_reducible rfl))
    try simp only [List.getElem_toArray, List.getElem_cons_succ, List.getElem_cons_zero, Act.put, List.setIfInBounds_toArray, List.set_cons_zero, List.set_cons_succ]
    refine Hd.take (i := 1) (v := ?tv326) hok rfl (by kernel_rfl) (fun _ _ _ h => h) (Or.inl ⟨by rfl, ?ty326⟩) (by assumption) ?tr326
    case ty326 => (intro w hSw; (try dsimp only at hSw); go_simp; (try with_reducible rfl))
    try simp only [List.getElem_toArray, List.getElem_cons_succ, List.getElem_cons_zero, Act.put, List.setIfInBounds_toArray, List.set_cons_zero, List.set_cons_succ]
    refine Hd.take (i := 2) (v := ?tv327) hok rfl (by kernel_rfl) (fun _ _ _ h => h) (Or.inl ⟨by rfl, ?ty327⟩) (by assumption) ?tr327
    case ty327 => (intro w hSw; (try dsimp only at hSw); go_simp; (try with_reducible rfl))
    try simp only [List.getElem_toArray, List.getElem_cons_succ, List.getElem_cons_zero, Act.put, List.setIfInBounds_toArray, List.set_cons_zero, List.set_cons_succ]
    refine Hd.take (i := 3) (v := ?tv328) hok rfl (by kernel_rfl) (fun _ _ _ h => h) (Or.inl ⟨by rfl, ?ty328⟩) (by assumption) ?tr328
    case ty328 => (intro w hSw; (try dsimp only at hSw); go_simp; (try with_reducible rfl))
    try simp only [List.getElem_toArray, List.getElem_cons_succ, List.getElem_cons_zero, Act.put, List.setIfInBounds_toArray, List.set_cons_zero, List.set_cons_succ]
    refine Hd.take (i := 4) (v := ?tv329) hok rfl (by kernel_rfl) (fun _ _ _ h => h) (Or.inl ⟨by rfl, ?ty329⟩) (by assumption) ?tr329
    case ty329 => (intro w hSw; (try dsimp only at hSw); go_simp; (try with_reducible rfl))
    try simp only [List.getElem_toArray, List.getElem_cons_succ, List.getElem_cons_zero, Act.put, List.setIfInBounds_toArray, List.set_cons_zero, List.set_cons_succ]
    obtain ⟨hbV, -⟩ := hzd.box 2 rfl
    have v0 : wd.cell? ⟨VB, 0, none⟩ = some (.string s) := box_cell hbV 0
    have f0 := box_free hbV 0
    have hz9 := hzd.setBox (C := [_, _, _]) 2 rfl 0 (.string nm)
    have hs9 := hsd.setCellL (B := VB) (by simp) 0 (.string nm)
    have hl9 := hld.setCellL (B := VB) (by simp) 0 (.string nm)
    have lt9 := ltL_below ltd (Nat.le_of_eq (by simp : wd.heap.size = (wd.setCell ⟨VB, 0, none⟩ (.string nm)).heap.size))
    obtain ⟨hbQ9, -⟩ := hz9.box 0 rfl
    refine Hd.one (i := 5) rfl (by kernel_rfl) (fun K hK => ?_)
    go_simp
    refine hK _ _ ⟨box_cell hbQ9 0, box_cell hbQ9 1⟩ ?_
    clear hK K
    try simp only [List.getElem_toArray, List.getElem_cons_succ, List.getElem_cons_zero, Act.put, List.setIfInBounds_toArray, List.set_cons_zero, List.set_cons_succ]
    refine Hd.done (by kernel_rfl) ?_
    simp only [List.drop_succ_cons, List.drop_zero]
    clear v0 f0 hbV hbQ hbQ9 hzd hsd hld ltd hok hS0 hz8 hs8 hl8 lt8 hdr
    generalize wd.setCell ⟨VB, 0, none⟩ (.string nm) = w7 at hz9 hs9 hl9 lt9 ⊢
    obtain ⟨hbV, -⟩ := hz9.box 2 rfl
    have v1 : w7.cell? ⟨VB, 1, none⟩ = some (.int .u64 val) := box_cell hbV 1
    have f1 := box_free hbV 1
    have hz10 := Lib.hid (hz9.setBox (C := [_, _, _]) 2 rfl 1 (.int .u64 vl))
    have hs10 := Lib.hid (hs9.setCellL (B := VB) (by simp) 1 (.int .u64 vl))
    have hl10 := Lib.hid (hl9.setCellL (B := VB) (by simp) 1 (.int .u64 vl))
    have lt10 := Lib.hid (ltL_below lt9 (Nat.le_of_eq (by simp : w7.heap.size = (w7.setCell ⟨VB, 1, none⟩ (.int .u64 vl)).heap.size)))
    clear hbV hz9 hs9 hl9 lt9
    go_upto_region 5 with fail
    clear v1 f1
    generalize w7.setCell ⟨VB, 1, none⟩ (.int .u64 vl) = w8 at hz10 hs10 hl10 lt10 ⊢
    obtain ⟨hbM, -⟩ := hz10.out.box 1 rfl
    have hmc : Hid (∀ j v, C0[j]? = some v → w8.cell? ⟨MB, 0 + j, none⟩ = some v) := Lib.hid (fun j v hj => by rw [Nat.zero_add, box_cell hbM j, List.getElem?_toArray]; exact hj)
    obtain ⟨hbQ, -⟩ := hz10.out.box 0 rfl
    have y0 : w8.cell? ⟨QB, 0, none⟩ = some (.string nm) := box_cell hbQ 0
    have y1 : w8.cell? ⟨QB, 1, none⟩ = some (.int .u64 vl) := box_cell hbQ 1
    have y2 : w8.cell? ⟨QB, 2, none⟩ = some (.int .u64 nx) := box_cell hbQ 2
    have y3 : w8.cell? ⟨QB, 3, none⟩ = some (.int .u64 hi) := box_cell hbQ 3
    have y4 : w8.cell? ⟨QB, 4, none⟩ = some (.slice az rows.length cz) := box_cell hbQ 4
    have hbx := box_facts (z := ⟨nm, vl, nx, hi, rows, az, cz⟩) hr0.out hf0.out
    have hnm : Hid (nm = inboxS) := Lib.hid hbx.1
    have hlt := Lib.hid (laterV_any (L := [QB, MB, VB]) (.agg C0.toArray) (.slice al l.length cl) nm vl nx hi az rows.length cz lt10.out hs10.out hr0.out (hl0.out w8 hz10.out.bel) (fun q hq => hrq.out q.1 (List.mem_map.2 ⟨q, hq, rfl⟩)) (by have := hlp.out.2.2.2.1; rw [List.length_map] at this; omega) hnm.out ⟨_, hf0.out, rfl⟩)
    clear hbM hbQ hbx
    go_wp2_with (refine wpList_load_cells rfl 27 (.tmp 6) rfl MB 0 C0 rfl Tryz.isAgg27 hsz.out hmc.out ?_; refine Hid.out ?_)
    refine Lib.hid ?_
    go_wp2_with fail
    refine hlt.out.mono ?_
    rintro e w9 ⟨sv2, z2, rfl, hf2, hs2, hl2, hb9⟩
    obtain ⟨nm2, vl2, nx2, hi2, rows2, az2, cz2⟩ := z2
    unfold bxAgg bxCells BxV.v
    dsimp only
    obtain ⟨t, ht, hev⟩ := later_inbox hr0.out hf0.out (l.map (·.1))
    have hr2 := later_right hr0.out (l.map (·.1))
    have hbx2 := box_facts (z := ⟨nm2, vl2, nx2, hi2, rows2, az2, cz2⟩) hr2 hf2.out
    have hvv : vl2 = vl := by
      have h1 := hf2.out
      rw [ht] at h1
      have h2 := Option.some.inj h1
      have h3 := hev.val
      rw [h2] at h3
      exact h3
    have hnn : nm2 = nm := hbx2.1.trans hnm.out.symm
    subst hvv hnn
    have hup : Hid ((rows2.map ltRow).Pairwise (fun x y => x.1 < y.1)) := Lib.hid (by
      have h1 := rowsB_up hbx2.2.1
      rwa [hbx2.2.2.2.2] at h1)
    have hrl2 : rows2.length ≤ 32 := hbx2.2.2.1
    have hfl2 := Lib.hid hbx2.2.2.2.1
    have hz11 := Lib.hid (hz10.out.below hb9.out)
    have lt11 := Lib.hid (ltL_below lt10.out hb9.out.size)
    clear t ht hev hr2 hbx2 hlt hz10 hs10 hl10 lt10 hb9 hs2 hf2 hmc hf0 hr0 hnm y0 y1 y2 y3 y4 hC1 hsz
    obtain ⟨hbQ, -⟩ := hz11.out.box 0 rfl
    have y0 := box_cell hbQ 0
    have y1 := box_cell hbQ 1
    have y2 := box_cell hbQ 2
    have y3 := box_cell hbQ 3
    have y4 := box_cell hbQ 4
    simp at y0 y1 y2 y3 y4
    have f0 := box_free hbQ 0
    have f1 := box_free hbQ 1
    have f2 := box_free hbQ 2
    have f3 := box_free hbQ 3
    have f4 := box_free hbQ 4
    have hz12 := Lib.hid (hz11.out.fillBox 0 rfl [.string nm2, .int .u64 vl2, .int .u64 nx2, .int .u64 hi2, .slice az2 rows2.length cz2] rfl)
    have hl12 := Lib.hid (hl2.out.setL (B := QB) (by simp) [.string nm2, .int .u64 vl2, .int .u64 nx2, .int .u64 hi2, .slice az2 rows2.length cz2])
    have lt12 := Lib.hid (ltL_below lt11.out (Nat.le_of_eq (KeptB.sets [.string nm2, .int .u64 vl2, .int .u64 nx2, .int .u64 hi2, .slice az2 rows2.length cz2] 0 (KeptB.refl w9 QB)).size.symm))
    simp only [World.setCells, Nat.zero_add] at hz12 hl12 lt12
    clear hbQ hz11 hl2 lt11
    go_upto_region 7 with fail
    clear y0 y1 y2 y3 y4 f0 f1 f2 f3 f4
    generalize ((((w9.setCell ⟨QB, 0, none⟩ _).setCell ⟨QB, 1, none⟩ _).setCell ⟨QB, 2, none⟩ _).setCell ⟨QB, 3, none⟩ _).setCell ⟨QB, 4, none⟩ _ = w10 at hz12 hl12 lt12 ⊢
    have hbW := Lib.hid hz12.out.bel
    have hV : Hid (∀ w', Below w10.heap.size w10 w' → w'.cell? ⟨VB, 2, none⟩ = some (.slice av l0.length cv)) := Lib.hid (fun w' hB => box_cell (heap_below (hz12.out.box 2 rfl).1 hB) 2)
    go_wp2_with fail
    go_loopw [12, 13] (fun v12 v13 wr => ∃ (p : Nat) (B : Bool), v13 = .int .i64 ((p : Int) + 1) ∧ p ≤ l0.length ∧ v12 = .bool B ∧ Hid (Below w10.heap.size w10 wr)) (fun _ v13 _ => l0.length + 1 - (intOf v13).toNat)
    case atStart => exact ⟨0, true, rfl, Nat.zero_le _, rfl, Lib.hid (Below.refl _ _)⟩
    case round =>
      obtain ⟨p, B, rfl, hp, rfl, hb⟩ := hrel
      have v2 := hV.out wr hb.out
      have hw2 : IntKind.i64.wrap ((p : Int) + 1 + 1) = (p : Int) + 1 + 1 := by rw [IntKind.wrap_i64]; omega
      by_cases hlt : p + 1 < l0.length
      · have hl1 : (p : Int) + 1 < (l0.length : Int) := by omega
        have hd1 : decide ((p : Int) + 1 < (l0.length : Int)) = true := decide_eq_true hl1
        cases B with
        | false =>
          go_wp2_with fail
          go_quiet (fail)
          have hbq := Lib.hid (below_drewN hb.out nq)
          go_wp2_with fail
          go_roundw
          case rel => exact ⟨p + 1, false, by congr 1, by omega, rfl, hbq⟩
          case measure => simp [intOf] <;> omega
        | true =>
          have hBW := Lib.hid (hbW.out.trans (hb.out.mono hbW.out.size))
          obtain ⟨b, o, cap', hv, hbB, hcells⟩ := rowAt (hk0.out wr hBW.out) hlt
          injection hv with q1 q2 q3
          subst q1 q3
          obtain ⟨c0, c1⟩ := hcells (p + 1) hlt
          obtain ⟨d0, d1⟩ := hcells p (by omega)
          generalize l0[p + 1] = x at c0 c1
          generalize l0[p] = y at d0 d1
          have hw3 : IntKind.i64.wrap ((p : Int) + 1 - 1) = (p : Int) := by rw [IntKind.wrap_i64]; omega
          have hi0 : (0 : Int) ≤ (p : Int) := by omega
          have hi1 : (p : Int) < (l0.length : Int) := by omega
          have hi2 : (0 : Int) ≤ (p : Int) + 1 := by omega
          have ht1 : ((p : Int) + 1).toNat = p + 1 := by omega
          clear hcells hbB hbW
          go_wp2_with fail
          go_quiet (fail)
          have hbq := Lib.hid (below_drewN hb.out nq)
          go_wp2_with fail
          go_roundw
          case rel => exact ⟨p + 1, _, by congr 1, by omega, rfl, hbq⟩
          case measure => simp [intOf] <;> omega
      · have hl1 : ¬ (p : Int) + 1 < (l0.length : Int) := by omega
        have hd1 : decide ((p : Int) + 1 < (l0.length : Int)) = false := decide_eq_false hl1
        have hz13 := Lib.hid (hz12.out.below hb.out)
        have hl13 := Lib.hid (hl12.out.below hb.out)
        obtain ⟨bb, hbb⟩ : ∃ bb, rows2.map ltRow = bb := ⟨_, rfl⟩
        have hbl : Hid (bb.length = rows2.length) := Lib.hid (by rw [← hbb, List.length_map])
        have hlt13 : LtsIn wr (.slice az2 rows2.length cz2) rows2 := hl13.out.now
        have hsy := Lib.hid (sync_any ⟨nm2, vl2, nx2, hi2, rows2, az2, cz2⟩ l0 (.slice av l0.length cv) expunge cond wr (by omega) (by show rows2.length ≤ 100000; omega) (hk0.out wr hz13.out.bel) hlt13 hfl2.out)
        dsimp only at hsy
        rw [hbb] at hsy hup
        replace hbb := Lib.hid hbb
        clear hz12 hl12 hV hbW v2 hb lt12 hlt13
        obtain ⟨hbQ, -⟩ := hz13.out.box 0 rfl
        have y0 : wr.cell? ⟨QB, 0, none⟩ = some (.string nm2) := box_cell hbQ 0
        have y1 : wr.cell? ⟨QB, 1, none⟩ = some (.int .u64 vl2) := box_cell hbQ 1
        have y2 : wr.cell? ⟨QB, 2, none⟩ = some (.int .u64 nx2) := box_cell hbQ 2
        have y3 : wr.cell? ⟨QB, 3, none⟩ = some (.int .u64 hi2) := box_cell hbQ 3
        have y4 : wr.cell? ⟨QB, 4, none⟩ = some (.slice az2 rows2.length cz2) := box_cell hbQ 4
        obtain ⟨hbV, -⟩ := hz13.out.box 2 rfl
        have v0 : wr.cell? ⟨VB, 0, none⟩ = some (.string nm2) := box_cell hbV 0
        have v1 : wr.cell? ⟨VB, 1, none⟩ = some (.int .u64 vl2) := box_cell hbV 1
        have v2 : wr.cell? ⟨VB, 2, none⟩ = some (.slice av l0.length cv) := box_cell hbV 2
        clear hbQ hbV
        go_wp2_with fail
        refine hsy.out.mono ?_
        rintro e w11 ⟨v3, vo3, rps3, rfl, hz14, -⟩
        obtain ⟨a3, c3, hv3⟩ := (hz14.out.ownC 1 rfl).len
        obtain ⟨ao3, co3, hvo3⟩ := (hz14.out.own 0 rfl).len
        have hkl := keptL_len l0 bb expunge
        have hnl := newsL_len (keptL l0 bb expunge) bb
        have hsl : (syncL l0 bb expunge).length ≤ 400 := by
          unfold syncL
          have := hbl.out
          rw [List.length_append, List.length_map]; omega
        have hst := sync_still (l := l0) (expunge := expunge) hup.out
        obtain ⟨l1, hl1e⟩ : ∃ l1, syncL l0 bb expunge = l1 := ⟨_, rfl⟩
        rw [hl1e] at hz14 hv3 hsl hst
        have hss := Lib.hid (still_sync hst)
        have htt := Lib.hid (still_tell hst)
        obtain ⟨n3, hn3⟩ : ∃ n3, l1.length = n3 := ⟨_, rfl⟩
        rw [hn3] at hv3 hsl
        replace hn3 := Lib.hid hn3
        replace hl1e := Lib.hid hl1e
        subst hv3 hvo3
        generalize rps3.length = nr3 at hz14
        have hz15 := hz13.out.join hz14.out
        have hl15 := hl13.out.below hz14.out.bel
        have hz16 := hz15.newBox [.string nm2, .int .u64 vl2, .slice a3 n3 c3].toArray 38
        have hl16 := hl15.allocL (.cells [.string nm2, .int .u64 vl2, .slice a3 n3 c3].toArray 38)
        generalize hWX : w11.heap.size = WX at hz16 hl16
        replace hz16 := Lib.hid hz16
        replace hl16 := Lib.hid hl16
        clear hsy hz14 hz13 hl13 hkl hnl hst y0 y1 y2 y3 y4 v0 v1 v2 hl15 hz15
        go_upto_region 12 with fail
        generalize (w11.alloc (.cells [.string nm2, .int .u64 vl2, .slice a3 n3 c3].toArray 38)) = w12 at hz16 hl16 ⊢
        have hrw : RangesIn w12 w12.heap.size (.slice a3 n3 c3) l1 := (hz16.out.ownC 2 rfl).rd.ranges
        have hsy := Lib.hid (sync_any ⟨nm2, vl2, nx2, hi2, rows2, az2, cz2⟩ l1 (.slice a3 n3 c3) expunge (!cond) w12 (by rw [hn3.out]; omega) (by show rows2.length ≤ 100000; omega) hrw hl16.out.now hfl2.out)
        dsimp only at hsy
        rw [hbb.out] at hsy
        obtain ⟨hbQ, -⟩ := hz16.out.box 3 rfl
        have y0 : w12.cell? ⟨QB, 0, none⟩ = some (.string nm2) := box_cell hbQ 0
        have y1 : w12.cell? ⟨QB, 1, none⟩ = some (.int .u64 vl2) := box_cell hbQ 1
        have y2 : w12.cell? ⟨QB, 2, none⟩ = some (.int .u64 nx2) := box_cell hbQ 2
        have y3 : w12.cell? ⟨QB, 3, none⟩ = some (.int .u64 hi2) := box_cell hbQ 3
        have y4 : w12.cell? ⟨QB, 4, none⟩ = some (.slice az2 rows2.length cz2) := box_cell hbQ 4
        obtain ⟨hbX, -⟩ := hz16.out.box 0 rfl
        have v0 : w12.cell? ⟨WX, 0, none⟩ = some (.string nm2) := box_cell hbX 0
        have v1 : w12.cell? ⟨WX, 1, none⟩ = some (.int .u64 vl2) := box_cell hbX 1
        have v2 : w12.cell? ⟨WX, 2, none⟩ = some (.slice a3 n3 c3) := box_cell hbX 2
        clear hbQ hbX hrw
        go_wp2_with fail
        refine hsy.out.mono ?_
        rintro e w13 ⟨v4, vo4, rps4, rfl, hz17, hsay4⟩
        rw [hss.out] at hz17
        rw [htt.out] at hsay4
        have hr4 : rps4 = [] := List.map_eq_nil_iff.1 hsay4.out
        subst hr4
        obtain ⟨a4, c4, hv4⟩ := (hz17.out.ownC 1 rfl).len
        obtain ⟨ao4, co4, hvo4⟩ := (hz17.out.own 0 rfl).len
        rw [hn3.out] at hv4
        rw [List.length_nil] at hvo4
        subst hv4 hvo4
        have hz18 := hz16.out.join hz17.out
        have hz19 := hz18.newBox [.string nm2, .int .u64 vl2, .slice a4 n3 c4].toArray 38
        generalize hWY : w13.heap.size = WY at hz19
        replace hz19 := Lib.hid hz19
        clear hsy hz17 hz16 hz18 hsay4 y0 y1 y2 y3 y4 v0 v1 v2 hl16
        go_upto_region 13 with fail
        generalize (w13.alloc (.cells [.string nm2, .int .u64 vl2, .slice a4 n3 c4].toArray 38)) = w14 at hz19 ⊢
        have hb19 := Lib.hid hz19.out.bel
        cases B with
        | false =>
          go_wp2_with fail
          go_ret
          exact ⟨rfl, by first | exact hb19.out | (rw [← hVB]; exact hb19.out)⟩
        | true =>
          have hsm := Lib.hid (same22_any nm2 vl2 l1 (.slice a3 n3 c3) (.slice a4 n3 c4) w14 (by rw [hn3.out]; omega) (hz19.out.ownC 5 rfl).rd.ranges (hz19.out.ownC 2 rfl).rd.ranges)
          obtain ⟨hbY, -⟩ := hz19.out.box 0 rfl
          have u0 : w14.cell? ⟨WY, 0, none⟩ = some (.string nm2) := box_cell hbY 0
          have u1 : w14.cell? ⟨WY, 1, none⟩ = some (.int .u64 vl2) := box_cell hbY 1
          have u2 : w14.cell? ⟨WY, 2, none⟩ = some (.slice a4 n3 c4) := box_cell hbY 2
          obtain ⟨hbX, -⟩ := hz19.out.box 3 rfl
          have v0 : w14.cell? ⟨WX, 0, none⟩ = some (.string nm2) := box_cell hbX 0
          have v1 : w14.cell? ⟨WX, 1, none⟩ = some (.int .u64 vl2) := box_cell hbX 1
          have v2 : w14.cell? ⟨WX, 2, none⟩ = some (.slice a3 n3 c3) := box_cell hbX 2
          clear hbY hbX
          go_wp2_with fail
          refine hsm.out.mono ?_
          rintro e w15 ⟨rfl, hb15⟩
          have hbE := Lib.hid (hb19.out.trans (hb15.out.mono hb19.out.size))
          clear hsm hb15 u0 u1 u2 v0 v1 v2
          go_wp2_with fail
          go_ret
          exact ⟨rfl, by first | exact hbE.out | (rw [← hVB]; exact hbE.out)⟩
end Go.Proofs.YtcnebfmlelcliaaGreat
namespace Go.Proofs.YtcnebfmlelcliaaGreat
open Go.RowKit
theorem viewQuiet_any (v sv lv : Value) (expunge cond : Bool) (W : World) (hv : ∃ (s : ByteArray) (val : Nat) (vr : Value) (l : List (Nat × Nat)), v = .agg #[.string s, .int .u64 val, vr] ∧ RangesIn W W.heap.size vr l) (hs : ∃ m : Ml, MlIn W sv m) (hl : ∃ l : List RqP, RqsIn W lv l) :
    Calls Tryz.prog 5 #[v, sv, lv, .bool expunge, .bool cond] W fun e w' => e = .returned (.bool true) ∧ Below W.heap.size W w' := by
  obtain ⟨s, val, vr, l0, rfl, hk⟩ := hv
  obtain ⟨m, hin⟩ := hs
  obtain ⟨l, hlq⟩ := hl
  exact viewQuiet_walk s val l0 vr lv sv m l expunge cond W hk hin hlq
end Go.Proofs.YtcnebfmlelcliaaGreat
