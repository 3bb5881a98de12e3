/- ViewCounts: walked. (written by tools/gen_VqJ.py) ViewCounts as its card calls it. -/
import Derived.Test.YtcnebfmlelcliaaGreatB26
namespace Go.Proofs.YtcnebfmlelcliaaGreat
set_option linter.unusedSimpArgs false
open Go.RowKit
attribute [local go_sem ↓] Go.wp_at_zero Go.wp_at_succ

theorem expR_le (l b : List (Nat × Nat)) : ∀ k, ∀ r ∈ expR l b k, r.2 ≤ k
  | 0, r, hr => by cases hr
  | k + 1, r, hr => by
    unfold expR at hr
    split at hr
    · exact Nat.le_succ_of_le (expR_le l b k r hr)
    · rcases List.mem_cons.1 hr with rfl | hr
      · exact Nat.le_refl _
      · exact Nat.le_succ_of_le (expR_le l b k r hr)
theorem fetR_le (b : List (Nat × Nat)) : ∀ (l : List (Nat × Nat)) (k : Nat), ∀ r ∈ fetR b l k, r.2 ≤ k + l.length
  | [], _, r, hr => by cases hr
  | x :: t, k, r, hr => by
    have h := fetR_le b t (k + 1)
    unfold fetR at hr
    rw [List.length_cons]
    split at hr
    · have := h r hr; omega
    · rcases List.mem_cons.1 hr with rfl | hr
      · show k + 1 ≤ _; omega
      · have := h r hr; omega
theorem tellR_le (l b : List (Nat × Nat)) (e : Bool) : ∀ r ∈ tellR l b e, r.2 ≤ l.length + b.length := fun r hr => by
  have h1 := keptL_len l b e
  have h2 := newsL_len (keptL l b e) b
  unfold tellR at hr
  rcases List.mem_append.1 hr with hr | hr
  · split at hr
    · have := expR_le l b _ r hr; omega
    · cases hr
  · rcases List.mem_append.1 hr with hr | hr
    · split at hr
      · cases hr
      · rw [List.mem_singleton.1 hr]; show _ + _ ≤ _; omega
    · have := fetR_le b _ 0 r hr; omega
theorem syncL_len (l b : List (Nat × Nat)) (e : Bool) : (syncL l b e).length ≤ l.length + b.length := by
  have h1 := keptL_len l b e
  have h2 := newsL_len (keptL l b e) b
  unfold syncL
  rw [List.length_append, List.length_map]; omega
/-- who counts: one reply -/
theorem runR_cons {ex : Bool} {k N M : Nat} {n : Nat} {t : List (Nat × Nat)} (h : runR ex k ((n, N) :: t) = some M) : (n = 9 ∧ 1 ≤ N ∧ N ≤ k ∧ ex = true ∧ runR ex (k - 1) t = some M) ∨ (n = 8 ∧ k < N ∧ runR ex N t = some M) ∨ (n = 14 ∧ 1 ≤ N ∧ N ≤ k ∧ runR ex k t = some M) ∨ (n ≠ 9 ∧ n ≠ 8 ∧ n ≠ 14 ∧ runR ex k t = some M) := by
  unfold runR at h
  split at h
  · split at h
    · cases h
    · rename_i h1 h2
      exact .inl ⟨h1, by omega, by omega, by cases ex with | true => rfl | false => exact absurd (.inr (.inr rfl)) h2, h⟩
  · split at h
    · split at h
      · cases h
      · exact .inr (.inl ⟨by assumption, by omega, h⟩)
    · split at h
      · split at h
        · cases h
        · exact .inr (.inr (.inl ⟨by assumption, by omega, by omega, h⟩))
      · exact .inr (.inr (.inr ⟨by assumption, by assumption, by assumption, h⟩))
theorem rqs_one {w : World} {v : Value} {l : List RqP} (h : RqsIn w v l) {q : Nat} (hq : q < l.length) : ∃ b o cap, v = .slice (some ⟨b, o, none⟩) l.length cap ∧ l.length ≤ cap ∧ RqsIn w (.slice (some ⟨b, o + q * 17, none⟩) 1 (cap - q)) [l[q]] := by
  obtain ⟨b, o, cap, hv, hle, hlt, hc⟩ := rqT.rd_cells h.1 hq
  refine ⟨b, o, cap, hv, hle, ⟨_, _, rfl, .inr ⟨b, o + q * 17, rfl, hlt, by show 1 ≤ cap - q; omega, fun i u hu => ?_⟩⟩, fun p hp => ?_⟩
  · have := hc i u (by simpa [RT.cells] using hu)
    rw [Nat.add_assoc]; exact this
  · rw [List.mem_singleton.1 hp]; exact h.2 _ (List.getElem_mem hq)
theorem wp_storeO {P : Program} {o : Oper} {a : Act} {w : World} {K : Act → World → Prop} {Q : Exit → Act → World → Prop} (t : TypeId) (x u : Operand) (ho : o.op = .store t x u) (b off : Nat) (cs : List Value) (hx : a.eval x = .pointer (some ⟨b, off, none⟩)) (hu : a.eval u = .agg cs.toArray) (hsz : ∀ w, (Go.sizeOf t).run P w = .ok cs.length w) (h1 : ∀ v ∈ cs, v.oneCell' = true) (hc : ∀ j, j < cs.length → (w.cell? ⟨b, off + j, none⟩).isSome = true) (hf : ∀ j, w.frozen? ⟨b, j, none⟩ = false)
    (hK : K (a.put o.dst undef) (w.setCells b off cs)) : Oper.wp P o a w K Q := by
  obtain ⟨n, h2, rfl⟩ := exec_store_cells (P := P) (ρ := a.eval) t x u ho b off cs hx hu hsz h1 w hc hf
  unfold Oper.wp
  simp only [h2, Result.andThen]
  exact hK
set_option maxRecDepth 100000 in
set_option maxHeartbeats 32000000 in
theorem viewCounts_walk (lv : Value) (v : Value) (m : Ml) (l : List RqP) (expunge cond : Bool) (W : World) (hin : MlIn W v m) (hl : RqsIn W lv l) :
    Calls Tryz.prog 4 #[v, lv, .bool expunge, .bool cond] W fun e w' => e = .returned (.bool true) ∧ Below W.heap.size W w' := by
  have hl0 := Lib.hid (fun (w' : World) (h : Below W.heap.size W w') => hl.below h)
  have hi0 := Lib.hid (fun (w' : World) (h : Below W.heap.size W w') => hin.below h)
  obtain ⟨ab, cb, nb, ah, ch, as_, cs, rfl⟩ := hin.out_
  obtain ⟨al, cl, hv, -⟩ := hl.1
  subst hv
  have hz2 := (Zoo.nil W).newBox (sC ab nb cb m ah ch as_ cs).toArray 27
  have lt2 := ltL_alloc (L := []) (w := W) (fun b hb => by cases hb) (.cells (sC ab nb cb m ah ch as_ cs).toArray 27)
  generalize hMB : W.heap.size = MB at hz2 lt2
  generalize hWb : (W.alloc (.cells (sC ab nb cb m ah ch as_ cs).toArray 27)) = Wb at hz2 lt2
  unfold sC at hWb
  have hal := Lib.hid (aliveV_any Wb)
  replace hz2 := Lib.hid hz2
  replace lt2 := Lib.hid lt2
  replace hl := Lib.hid hl
  clear hin
  go_enter Tryz.func4, Tryz.ntmps4
  go_upto_region 1 with fail
  clear hWb
  go_wp2_with fail
  refine hal.out.mono ?_
  rintro e w1 ⟨rfl, hb1⟩
  have hz3 := Lib.hid (hz2.out.below hb1.out)
  have lt3 := Lib.hid (ltL_below lt2.out hb1.out.size)
  clear hal hz2 lt2 hb1
  obtain ⟨hbM, -⟩ := hz3.out.box 0 rfl
  have x0 : w1.cell? ⟨MB, 0, none⟩ = some (.slice ab nb cb) := box_cell hbM 0
  have x1 : w1.cell? ⟨MB, 1, none⟩ = some (.int .u64 m.nv) := box_cell hbM 1
  have x2 : w1.cell? ⟨MB, 2, none⟩ = some (.slice ah m.homes.length ch) := box_cell hbM 2
  have x3 : w1.cell? ⟨MB, 3, none⟩ = some (.slice as_ m.seats.length cs) := box_cell hbM 3
  have x4 : w1.cell? ⟨MB, 4, none⟩ = some (.int .u64 m.ns) := box_cell hbM 4
  have x5 : w1.cell? ⟨MB, 5, none⟩ = some (.int .u64 m.sweeps) := box_cell hbM 5
  have hgr := Lib.hid (great_any_vw _ _ (hi0.out w1 hz3.out.bel) (hl0.out w1 hz3.out.bel))
  clear hbM
  go_wp2_with fail
  refine hgr.out.mono ?_
  rintro e w2 ⟨rfl, hb2⟩
  have hz4 := Lib.hid (hz3.out.below hb2.out)
  have lt4 := Lib.hid (ltL_below lt3.out hb2.out.size)
  clear hgr hz3 lt3 hb2 x0 x1 x2 x3 x4 x5
  cases hL : lightB m (l.map (·.1)) with
  | false =>
    have hal2 := Lib.hid (aliveV_any w2)
    replace hL := Lib.hid hL
    go_wp2_with fail
    refine hal2.out.mono ?_
    rintro e w3 ⟨rfl, hb3⟩
    have hbE := Lib.hid (hz4.out.below hb3.out).bel
    go_wp2_with fail
    go_ret
    exact ⟨rfl, by first | exact hbE.out | (rw [← hMB]; exact hbE.out)⟩
  | true =>
    have hask := Lib.hid (light_ask hL)
    have hrq := Lib.hid (light_rq hL)
    have hlp := Lib.hid (light_parts hL)
    replace hL := Lib.hid hL
    obtain ⟨hbM, -⟩ := hz4.out.box 0 rfl
    have x0 : w2.cell? ⟨MB, 0, none⟩ = some (.slice ab nb cb) := box_cell hbM 0
    have x1 : w2.cell? ⟨MB, 1, none⟩ = some (.int .u64 m.nv) := box_cell hbM 1
    have x2 : w2.cell? ⟨MB, 2, none⟩ = some (.slice ah m.homes.length ch) := box_cell hbM 2
    have x3 : w2.cell? ⟨MB, 3, none⟩ = some (.slice as_ m.seats.length cs) := box_cell hbM 3
    have x4 : w2.cell? ⟨MB, 4, none⟩ = some (.int .u64 m.ns) := box_cell hbM 4
    have x5 : w2.cell? ⟨MB, 5, none⟩ = some (.int .u64 m.sweeps) := box_cell hbM 5
    have stm : Stay (okL [MB]) w2 fun x => MlIn x (.agg (sC ab nb cb m ah ch as_ cs).toArray) m := (hi0.out W (Below.refl _ _)).stayL hz4.out.bel (fun b hb => by
      rw [List.mem_singleton.1 hb]; exact (hz4.out.box 0 rfl).2)
    have hbg := Lib.hid (begunV_any _ lt4.out stm hask.out)
    unfold sC at hbg
    clear hbM stm
    go_upto_region 3 with fail
    go_wp2_with fail
    refine hbg.out.mono ?_
    rintro e w3 ⟨sv, z, m0, rfl, hr0, hf0, hS0, hz0, hb3⟩
    obtain ⟨C0, hC0, hC6, hC1⟩ : ∃ C0 : List Value, sv = .agg C0.toArray ∧ C0.length = 6 ∧ ∀ v ∈ C0, v.oneCell' = true := by
      obtain ⟨ab1, cb1, nb1, ah1, ch1, as1, cs1, h⟩ := hS0.out.now.out_
      refine ⟨_, h, rfl, fun v hv => ?_⟩
      simp only [List.mem_cons, List.not_mem_nil, or_false] at hv
      rcases hv with rfl | rfl | rfl | rfl | rfl | rfl <;> rfl
    subst hC0
    obtain ⟨nm, vl, nx, hi, rows, az, cz⟩ := z
    unfold bxAgg bxCells BxV.v
    dsimp only
    have hz6 := (hz4.out.below hb3.out).newBox zBx.toArray 33
    have hs6 := hS0.out.allocL (.cells zBx.toArray 33)
    have hl6 := hz0.out.allocL (.cells zBx.toArray 33)
    have lt6 := ltL_alloc (ltL_below lt4.out hb3.out.size) (.cells zBx.toArray 33)
    generalize hQB : w3.heap.size = QB at hz6 hs6 hl6 lt6
    generalize hWe : (w3.alloc (.cells zBx.toArray 33)) = w4 at hz6 hs6 hl6 lt6
    unfold zBx at hWe
    have hsm := hz6.boxSome 1 rfl
    have hz7 := hz6.fillBox 1 rfl C0 (by rw [hC6]; rfl)
    have hs7 := hs6.setL (B := MB) (by simp) C0
    have hl7 := hl6.setL (B := MB) (by simp) C0
    have lt7 := ltL_below lt6 (Nat.le_of_eq (KeptB.sets C0 0 (KeptB.refl w4 MB)).size.symm)
    have hm1 : Hid (∀ j, j < C0.length → (w4.cell? ⟨MB, 0 + j, none⟩).isSome = true) := Lib.hid (by rw [hC6]; exact hsm.1)
    have hm2 := Lib.hid hsm.2
    have hsz := Lib.hid (fun w : World => (show (Go.sizeOf 27).run Tryz.prog w = .ok C0.length w from by rw [hC6]; exact Tryz.sizeOf27 w))
    replace hC1 := Lib.hid hC1
    replace hC6 := Lib.hid hC6
    replace hz7 := Lib.hid hz7
    replace hs7 := Lib.hid hs7
    replace hl7 := Lib.hid hl7
    replace lt7 := Lib.hid lt7
    clear hz6 hs6 hl6 lt6 x0 x1 x2 x3 x4 x5 hbg hb3 hS0 hz0 hsm hz4 lt4
    go_wp2_with (refine wpList_store_cells rfl 27 (.tmp 4) (.tmp 29) rfl MB 0 C0 rfl rfl hsz.out hC1.out hm1.out hm2.out ?_; refine Hid.out ?_)
    refine Lib.hid ?_
    generalize w4.setCells MB 0 C0 = w5 at hz7 hs7 hl7 lt7 ⊢
    clear hWe hm1 hm2
    obtain ⟨hbQ, -⟩ := hz7.out.box 0 rfl
    have y0 := box_cell hbQ 0
    have y1 := box_cell hbQ 1
    have y2 := box_cell hbQ 2
    have y3 := box_cell hbQ 3
    have y4 := box_cell hbQ 4
    simp [zBx] at y0 y1 y2 y3 y4
    have f0 := box_free hbQ 0
    have f1 := box_free hbQ 1
    have f2 := box_free hbQ 2
    have f3 := box_free hbQ 3
    have f4 := box_free hbQ 4
    have hz8 := Lib.hid (hz7.out.fillBox 0 rfl [.string nm, .int .u64 vl, .int .u64 nx, .int .u64 hi, .slice az rows.length cz] rfl)
    have hs8 := Lib.hid (hs7.out.setL (B := QB) (by simp) [.string nm, .int .u64 vl, .int .u64 nx, .int .u64 hi, .slice az rows.length cz])
    have hl8 := Lib.hid (hl7.out.setL (B := QB) (by simp) [.string nm, .int .u64 vl, .int .u64 nx, .int .u64 hi, .slice az rows.length cz])
    have lt8 := Lib.hid (ltL_below lt7.out (Nat.le_of_eq (KeptB.sets [.string nm, .int .u64 vl, .int .u64 nx, .int .u64 hi, .slice az rows.length cz] 0 (KeptB.refl w5 QB)).size.symm))
    simp only [World.setCells, Nat.zero_add] at hz8 hs8 hl8 lt8
    clear hbQ
    go_upto_region 4 with fail
    clear y0 y1 y2 y3 y4 f0 f1 f2 f3 f4 hz7 hs7 hl7 lt7
    generalize ((((w5.setCell ⟨QB, 0, none⟩ _).setCell ⟨QB, 1, none⟩ _).setCell ⟨QB, 2, none⟩ _).setCell ⟨QB, 3, none⟩ _).setCell ⟨QB, 4, none⟩ _ = w6 at hz8 hs8 hl8 lt8 ⊢
    obtain ⟨hbQ, -⟩ := hz8.out.box 0 rfl
    have y0 : w6.cell? ⟨QB, 0, none⟩ = some (.string nm) := box_cell hbQ 0
    have y1 : w6.cell? ⟨QB, 1, none⟩ = some (.int .u64 vl) := box_cell hbQ 1
    have y2 : w6.cell? ⟨QB, 2, none⟩ = some (.int .u64 nx) := box_cell hbQ 2
    have y3 : w6.cell? ⟨QB, 3, none⟩ = some (.int .u64 hi) := box_cell hbQ 3
    have y4 : w6.cell? ⟨QB, 4, none⟩ = some (.slice az rows.length cz) := box_cell hbQ 4
    have hbx := box_facts (z := ⟨nm, vl, nx, hi, rows, az, cz⟩) hr0.out hf0.out
    have hnm : Hid (nm = inboxS) := Lib.hid hbx.1
    have hrl : rows.length ≤ 32 := hbx.2.2.1
    obtain ⟨b0, hb0⟩ : ∃ b0, rows.map ltRow = b0 := ⟨_, rfl⟩
    have hbl0 : Hid (b0.length = rows.length) := Lib.hid (by rw [← hb0, List.length_map])
    have hop := openV_any ⟨nm, vl, nx, hi, rows, az, cz⟩ w6 (by show rows.length ≤ 100000; omega) hl8.out.now
    dsimp only at hop
    rw [hb0] at hop
    replace hop := Lib.hid hop
    replace hb0 := Lib.hid hb0
    clear hbQ hbx
    go_wp2_with fail
    refine hop.out.mono ?_
    rintro e w7 ⟨v1, rfl, hz9⟩
    obtain ⟨a1, c1, hv1⟩ := (hz9.out.ownC 0 rfl).len
    rw [hbl0.out] at hv1
    subst hv1
    have hz10 := hz8.out.join hz9.out
    have hs10 := hs8.out.below hz9.out.bel
    have hl10 := hl8.out.below hz9.out.bel
    have lt10 := ltL_below lt8.out hz9.out.bel.size
    have hz11 := hz10.newBox [.string nm, .int .u64 vl, .slice a1 rows.length c1].toArray 38
    have hs11 := hs10.allocL (.cells [.string nm, .int .u64 vl, .slice a1 rows.length c1].toArray 38)
    have hl11 := hl10.allocL (.cells [.string nm, .int .u64 vl, .slice a1 rows.length c1].toArray 38)
    have lt11 := ltL_alloc lt10 (.cells [.string nm, .int .u64 vl, .slice a1 rows.length c1].toArray 38)
    generalize hVX : w7.heap.size = VX at hz11 hs11 hl11 lt11
    replace hz11 := Lib.hid hz11
    replace hs11 := Lib.hid hs11
    replace hl11 := Lib.hid hl11
    replace lt11 := Lib.hid lt11
    clear hop hz8 hs8 hl8 lt8 hz9 hz10 hs10 hl10 lt10 y0 y1 y2 y3 y4
    go_upto_region 5 with fail
    clear hVX
    generalize (w7.alloc (.cells [.string nm, .int .u64 vl, .slice a1 rows.length c1].toArray 38)) = w8 at hz11 hs11 hl11 lt11 ⊢
    have hz12 := Lib.hid (hz11.out.fore 1 rfl)
    obtain ⟨hbV, -⟩ := hz12.out.box 1 rfl
    have v2 : w8.cell? ⟨VX, 2, none⟩ = some (.slice a1 rows.length c1) := box_cell hbV 2
    have hwc : IntKind.u64.wrap (rows.length : Int) = (rows.length : Int) := by rw [IntKind.wrap_u64]; omega
    have hlen : l.length ≤ 200 := by have := hlp.out.2.2.2.1; rwa [List.length_map] at this
    clear hbV hz11
    go_upto_region 7 with fail
    clear v2 hwc
    go_wp2_with fail
    go_loopw [11, 12] (fun v11 v12 wr => ∃ (q : Nat) (mq : Ml) (C : List Value) (z : BxV) (lr : List (Nat × Nat)) (n : Nat) (a : Option Addr) (c : Nat), v12 = .int .i64 q ∧ v11 = .int .u64 n ∧ q ≤ l.length ∧ n ≤ 32 * q + 32 ∧ Hid (lr.length = n) ∧ Hid (C.length = 6) ∧ Hid (∀ v ∈ C, v.oneCell' = true) ∧ Hid (RightP mq) ∧ Hid (findM mq inboxS = some z.b) ∧ Hid (z.validity = vl) ∧ Hid (Zoo W wr [rowT.rowC (.slice a n c) lr, boxT VX [.string nm, .int .u64 vl, .slice a n c].toArray 38, boxT QB (bxCells z).toArray 33, boxT MB C.toArray 27]) ∧ Hid (Stay (okL [VX, QB, MB]) wr fun x => MlIn x (.agg C.toArray) mq) ∧ Hid (Stay (okL [VX, QB, MB]) wr fun x => LtsIn x z.v z.rows) ∧ Hid (∀ b ∈ [VX, QB, MB], b < wr.heap.size)) (fun _ v12 _ => l.length - (intOf v12).toNat)
    case atStart => exact ⟨0, m0, C0, ⟨nm, vl, nx, hi, rows, az, cz⟩, b0, rows.length, a1, c1, rfl, rfl, Nat.zero_le _, by omega, hbl0, hC6, hC1, hr0, hf0, Lib.hid rfl, hz12, hs11, hl11, lt11⟩
    case round =>
      clear hz12 hs11 hl11 lt11 hC6 hC1 hr0 hf0 hbl0 hrl hb0 hsz
      obtain ⟨q, mq, C, z, lr, n, a, c, rfl, rfl, hqle, hnle, hlr, hC6, hC1, hr, hf, hzv, hz, hs, hlt0, lt⟩ := hrel
      obtain ⟨zn, zv, zx, zh, zr, za, zc⟩ := z
      obtain rfl : zv = vl := hzv.out
      have hznm : zn = inboxS := (findM_mem hf.out).2
      obtain rfl : zn = nm := hznm.trans hnm.out.symm
      replace hznm := Lib.hid hznm
      unfold bxCells at hz
      unfold BxV.v at hlt0
      dsimp only at hz hlt0
      by_cases hlt : q < l.length
      · obtain ⟨b, bo, cap, hv, hcap, -⟩ := rqs_one hl.out hlt
        injection hv with q1 q2 q3
        subst q1 q3
        have hone : Hid (∀ W', Below W.heap.size W W' → RqsIn W' (.slice (some ⟨b, bo + q * 17, none⟩) 1 (cl - q)) [l[q]]) := Lib.hid (fun W' hB => by
          obtain ⟨b', bo', cap', hv, -, h⟩ := rqs_one (hl0.out W' hB) hlt
          injection hv with q1 q2 q3
          injection q1 with q1
          injection q1 with e1 e2 e3
          subst e1 e2 q3
          exact h)
        have hqok := Lib.hid (hrq.out l[q].1 (List.mem_map.2 ⟨_, List.getElem_mem hlt, rfl⟩))
        have hl1 : (q : Int) < (l.length : Int) := by omega
        have hw1 : IntKind.i64.wrap ((q : Int) + 1) = (q : Int) + 1 := by rw [IntKind.wrap_i64]; omega
        have hg0 : (0 : Int) ≤ (q : Int) := by omega
        have hg1 : (q : Int) ≤ (q : Int) + 1 := by omega
        have hg2 : (q : Int) + 1 ≤ (cl : Int) := by omega
        have hcq : cl ≠ q := by omega
        go_upto_region 10 with fail
        have hzd := hz.out.drew
        have hdr := (Below.refl wr.heap.size wr).drew
        have hsd := hs.out.below hdr
        have hld := hlt0.out.below hdr
        have ltd := ltL_below lt.out hdr.size
        have hSn : Hid ((wr.drew.heap[MB]? = some (.cells C.toArray 27 (0, 0))) ∧ wr.drew.heap[QB]? = some (.cells [.string zn, .int .u64 zv, .int .u64 zx, .int .u64 zh, .slice za zr.length zc].toArray 33 (0, 0))) := Lib.hid ⟨(hzd.box 3 rfl).1, (hzd.box 2 rfl).1⟩
        refine wp_region_hdP 12 (fun e w' => Hid (e = false → (w'.heap[MB]? = some (.cells C.toArray 27 (0, 0))) ∧ w'.heap[QB]? = some (.cells [.string zn, .int .u64 zv, .int .u64 zx, .int .u64 zh, .slice za zr.length zc].toArray 33 (0, 0)))) 14 1 (by kernel_rfl) rfl ⟨by kernel_rfl, by kernel_rfl⟩ (Lib.hid fun _ => hSn.out) (fun hok hS0 => ?_)
        clear hS0 hz hs hlt0 lt hdr
        generalize wr.drew = wd at *
        have hsz := Lib.hid (fun w : World => (show (Go.sizeOf 27).run Tryz.prog w = .ok C.length w from by rw [hC6.out]; exact Tryz.sizeOf27 w))
        refine HdP.take (i := 0) (v := .agg C.toArray) hok rfl (by kernel_rfl) (fun _ _ _ h => h) (by decide) (yields_load_cells 27 (.tmp 4) rfl MB 0 C (by rfl) Tryz.isAgg27 hsz.out rfl (fun W hS j v hj => by rw [Nat.zero_add, box_cell ((hS.early (by kernel_rfl)).out rfl).1 j, List.getElem?_toArray]; exact hj)) (Lib.hid fun _ => hSn.out) ?_
        try simp only [List.getElem_toArray, List.getElem_cons_succ, List.getElem_cons_zero, Act.put, List.setIfInBounds_toArray, List.set_cons_zero, List.set_cons_succ]
        refine HdP.take (i := 1) (v := ?tv335) hok rfl (by kernel_rfl) (fun _ _ _ h => h) (by decide) (Or.inl ⟨by rfl, ?ty335⟩) (Lib.hid fun _ => hSn.out) ?tr335
        case ty335 => (intro w hSw; clear hSw; go_simp; (try with_reducible rfl))
        try simp only [List.getElem_toArray, List.getElem_cons_succ, List.getElem_cons_zero, Act.put, List.setIfInBounds_toArray, List.set_cons_zero, List.set_cons_succ]
        refine HdP.take (i := 2) (v := ?tv336) hok rfl (by kernel_rfl) (fun _ _ _ h => h) (by decide) (Or.inl ⟨by rfl, ?ty336⟩) (Lib.hid fun _ => hSn.out) ?tr336
        case ty336 => (intro w hSw; clear hSw; go_simp; (try with_reducible rfl))
        try simp only [List.getElem_toArray, List.getElem_cons_succ, List.getElem_cons_zero, Act.put, List.setIfInBounds_toArray, List.set_cons_zero, List.set_cons_succ]
        refine HdP.take (i := 3) (v := ?tv337) hok rfl (by kernel_rfl) (fun _ _ _ h => h) (by decide) (Or.inl ⟨by rfl, ?ty337⟩) (Lib.hid fun _ => hSn.out) ?tr337
        case ty337 => (intro w hSw; clear hSw; go_simp; (try with_reducible rfl))
        try simp only [List.getElem_toArray, List.getElem_cons_succ, List.getElem_cons_zero, Act.put, List.setIfInBounds_toArray, List.set_cons_zero, List.set_cons_succ]
        refine HdP.take (i := 4) (v := ?tv338) hok rfl (by kernel_rfl) (fun _ _ _ h => h) (by decide) (Or.inl ⟨by rfl, ?ty338⟩) (Lib.hid fun _ => hSn.out) ?tr338
        case ty338 => (intro w hSw; clear hSw; go_simp; (try with_reducible rfl))
        try simp only [List.getElem_toArray, List.getElem_cons_succ, List.getElem_cons_zero, Act.put, List.setIfInBounds_toArray, List.set_cons_zero, List.set_cons_succ]
        refine HdP.take (i := 5) (v := ?tv339) hok rfl (by kernel_rfl) (fun _ _ _ h => h) (by decide) (Or.inl ⟨by rfl, ?ty339⟩) (Lib.hid fun _ => hSn.out) ?tr339
        case ty339 => (intro w hSw; clear hSw; go_simp; (try with_reducible rfl))
        try simp only [List.getElem_toArray, List.getElem_cons_succ, List.getElem_cons_zero, Act.put, List.setIfInBounds_toArray, List.set_cons_zero, List.set_cons_succ]
        refine HdP.take (i := 6) (v := .agg [.string zn, .int .u64 zv, .int .u64 zx, .int .u64 zh, .slice za zr.length zc].toArray) hok rfl (by kernel_rfl) (fun _ _ _ h => h) (by decide) (yields_load_cells 33 (.tmp 9) rfl QB 0 [.string zn, .int .u64 zv, .int .u64 zx, .int .u64 zh, .slice za zr.length zc] (by rfl) Tryz.isAgg33 Tryz.sizeOf33 rfl (fun W hS j v hj => by rw [Nat.zero_add, box_cell ((hS.early (by kernel_rfl)).out rfl).2 j, List.getElem?_toArray]; exact hj)) (Lib.hid fun _ => hSn.out) ?_
        try simp only [List.getElem_toArray, List.getElem_cons_succ, List.getElem_cons_zero, Act.put, List.setIfInBounds_toArray, List.set_cons_zero, List.set_cons_succ]
        refine HdP.one (i := 7) rfl (by kernel_rfl) (fun K hK => ?_)
        go_simp
        refine (laterV_any (L := [VX, QB, MB]) (l := [l[q]]) (.agg C.toArray) (.slice (some ⟨b, bo + q * 17, none⟩) 1 (cl - q)) zn zv zx zh za zr.length zc ltd hsd hr.out (hone.out wd hzd.bel) (fun x hx => by rw [List.mem_singleton.1 hx]; exact hqok.out) (by simp) hznm.out ⟨_, hf.out, rfl⟩).mono ?_
        rintro e w5 ⟨sv2, z2, rfl, hf2, hs2, hl2, hb5⟩
        obtain ⟨C2, hC2, hC26, hC21⟩ : ∃ C2 : List Value, sv2 = .agg C2.toArray ∧ C2.length = 6 ∧ ∀ v ∈ C2, v.oneCell' = true := by
          obtain ⟨ab1, cb1, nb1, ah1, ch1, as1, cs1, h⟩ := hs2.out.now.out_
          refine ⟨_, h, rfl, fun v hv => ?_⟩
          simp only [List.mem_cons, List.not_mem_nil, or_false] at hv
          rcases hv with rfl | rfl | rfl | rfl | rfl | rfl <;> rfl
        subst hC2
        obtain ⟨nm2, vl2, nx2, hi2, rows2, az2, cz2⟩ := z2
        unfold bxAgg bxCells BxV.v
        dsimp only
        obtain ⟨t, ht, hev⟩ := later_inbox hr.out hf.out ([l[q]].map (·.1))
        have hr2 := later_right hr.out ([l[q]].map (·.1))
        have hbx2 := box_facts (z := ⟨nm2, vl2, nx2, hi2, rows2, az2, cz2⟩) hr2 hf2.out
        have hvv : vl2 = zv := by
          have h1 := hf2.out
          rw [ht] at h1
          have h3 := hev.val
          rw [Option.some.inj h1] at h3
          exact h3
        have hnn : nm2 = zn := hbx2.1.trans hznm.out.symm
        have hrl2 : rows2.length ≤ 32 := hbx2.2.2.1
        have hfl2 := Lib.hid hbx2.2.2.2.1
        replace hr2 := Lib.hid hr2
        generalize laterM mq ([l[q]].map (·.1)) = m2 at hr2 hf2 hs2
        have hz5 := hzd.below hb5.out
        have lt5 := ltL_below ltd hb5.out.size
        have hSn : Hid ((w5.heap[MB]? = some (.cells C.toArray 27 (0, 0))) ∧ w5.heap[QB]? = some (.cells [.string zn, .int .u64 zv, .int .u64 zx, .int .u64 zh, .slice za zr.length zc].toArray 33 (0, 0))) := Lib.hid ⟨(hz5.box 3 rfl).1, (hz5.box 2 rfl).1⟩
        refine hK _ _ (Lib.hid fun _ => hSn.out) ?_
        clear hK K hone hqok t ht hev hbx2 hzd hsd hld ltd hb5
        try simp only [List.getElem_toArray, List.getElem_cons_succ, List.getElem_cons_zero, Act.put, List.setIfInBounds_toArray, List.set_cons_zero, List.set_cons_succ]
        refine HdP.take (i := 8) (v := ?tv340) hok rfl (by kernel_rfl) (fun _ _ _ h => h) (by decide) (Or.inl ⟨by rfl, ?ty340⟩) (Lib.hid fun _ => hSn.out) ?tr340
        case ty340 => (intro w hSw; clear hSw; go_simp; (try with_reducible rfl))
        try simp only [List.getElem_toArray, List.getElem_cons_succ, List.getElem_cons_zero, Act.put, List.setIfInBounds_toArray, List.set_cons_zero, List.set_cons_succ]
        refine HdP.take (i := 9) (v := ?tv341) hok rfl (by kernel_rfl) (fun _ _ _ h => h) (by decide) (Or.inl ⟨by rfl, ?ty341⟩) (Lib.hid fun _ => hSn.out) ?tr341
        case ty341 => (intro w hSw; clear hSw; go_simp; (try with_reducible rfl))
        try simp only [List.getElem_toArray, List.getElem_cons_succ, List.getElem_cons_zero, Act.put, List.setIfInBounds_toArray, List.set_cons_zero, List.set_cons_succ]
        refine HdP.take (i := 10) (v := ?tv342) hok rfl (by kernel_rfl) (fun _ _ _ h => h) (by decide) (Or.inl ⟨by rfl, ?ty342⟩) (Lib.hid fun _ => hSn.out) ?tr342
        case ty342 => (intro w hSw; clear hSw; go_simp; (try with_reducible rfl))
        try simp only [List.getElem_toArray, List.getElem_cons_succ, List.getElem_cons_zero, Act.put, List.setIfInBounds_toArray, List.set_cons_zero, List.set_cons_succ]
        refine HdP.take (i := 11) (v := ?tv343) hok rfl (by kernel_rfl) (fun _ _ _ h => h) (by decide) (Or.inl ⟨by rfl, ?ty343⟩) (Lib.hid fun _ => hSn.out) ?tr343
        case ty343 => (intro w hSw; clear hSw; go_simp; (try with_reducible rfl))
        try simp only [List.getElem_toArray, List.getElem_cons_succ, List.getElem_cons_zero, Act.put, List.setIfInBounds_toArray, List.set_cons_zero, List.set_cons_succ]
        have hsm := hz5.boxSome 3 rfl
        have hz6 := hz5.fillBox 3 rfl C2 (by rw [hC26, hC6.out])
        have hs6 := hs2.out.setL (B := MB) (by simp) C2
        have hl6 := hl2.out.setL (B := MB) (by simp) C2
        have lt6 := ltL_below lt5 (Nat.le_of_eq (KeptB.sets C2 0 (KeptB.refl w5 MB)).size.symm)
        have hm1 : Hid (∀ j, j < C2.length → (w5.cell? ⟨MB, 0 + j, none⟩).isSome = true) := Lib.hid (by rw [hC26, ← hC6.out]; exact hsm.1)
        have hm2 := Lib.hid hsm.2
        have hsz2 := Lib.hid (fun w : World => (show (Go.sizeOf 27).run Tryz.prog w = .ok C2.length w from by rw [hC26]; exact Tryz.sizeOf27 w))
        replace hC21 := Lib.hid hC21
        replace hC26 := Lib.hid hC26
        clear hsm hSn hsz hs2 hl2 lt5 hz5 hC6 hC1
        refine HdP.one (i := 12) rfl (by kernel_rfl) (fun K hK => ?_)
        rw [if_pos (by rfl)]
        refine wp_storeO 27 (.tmp 4) (.tmp 52) rfl MB 0 C2 rfl rfl hsz2.out hC21.out hm1.out hm2.out ?_
        refine hK _ _ (Lib.hid fun h => by cases h) ?_
        clear hK K
        try simp only [List.getElem_toArray, List.getElem_cons_succ, List.getElem_cons_zero, Act.put, List.setIfInBounds_toArray, List.set_cons_zero, List.set_cons_succ]
        generalize w5.setCells MB 0 C2 = w6 at hz6 hs6 hl6 lt6 ⊢
        clear hm1 hm2 hsz2
        obtain ⟨hbQ, -⟩ := hz6.box 2 rfl
        have y0 := box_cell hbQ 0
        have y1 := box_cell hbQ 1
        have y2 := box_cell hbQ 2
        have y3 := box_cell hbQ 3
        have y4 := box_cell hbQ 4
        simp at y0 y1 y2 y3 y4
        have f0 := box_free hbQ 0
        have f1 := box_free hbQ 1
        have f2 := box_free hbQ 2
        have f3 := box_free hbQ 3
        have f4 := box_free hbQ 4
        have hz7 := hz6.fillBox 2 rfl [.string nm2, .int .u64 vl2, .int .u64 nx2, .int .u64 hi2, .slice az2 rows2.length cz2] rfl
        have hs7 := hs6.setL (B := QB) (by simp) [.string nm2, .int .u64 vl2, .int .u64 nx2, .int .u64 hi2, .slice az2 rows2.length cz2]
        have hl7 := hl6.setL (B := QB) (by simp) [.string nm2, .int .u64 vl2, .int .u64 nx2, .int .u64 hi2, .slice az2 rows2.length cz2]
        have lt7 := ltL_below lt6 (Nat.le_of_eq (KeptB.sets [.string nm2, .int .u64 vl2, .int .u64 nx2, .int .u64 hi2, .slice az2 rows2.length cz2] 0 (KeptB.refl w6 QB)).size.symm)
        simp only [World.setCells, Nat.zero_add] at hz7 hs7 hl7 lt7
        refine HdP.one (i := 13) rfl (by kernel_rfl) (fun K hK => ?_)
        go_simp
        refine hK _ _ (Lib.hid fun h => by cases h) ?_
        clear hK K
        try simp only [List.getElem_toArray, List.getElem_cons_succ, List.getElem_cons_zero, Act.put, List.setIfInBounds_toArray, List.set_cons_zero, List.set_cons_succ]
        refine HdP.done (by kernel_rfl) ?_
        simp only [List.drop_succ_cons, List.drop_zero]
        clear hok hbQ hz6 hs6 hl6 lt6
        replace hz7 := Lib.hid hz7
        replace hs7 := Lib.hid hs7
        replace hl7 := Lib.hid hl7
        replace lt7 := Lib.hid lt7
        subst hvv hnn
        clear q2
        go_upto_region 11 with fail
        clear y0 y1 y2 y3 y4 f0 f1 f2 f3 f4
        generalize ((((w6.setCell ⟨QB, 0, none⟩ _).setCell ⟨QB, 1, none⟩ _).setCell ⟨QB, 2, none⟩ _).setCell ⟨QB, 3, none⟩ _).setCell ⟨QB, 4, none⟩ _ = w7 at hz7 hs7 hl7 lt7 ⊢
        obtain ⟨b2, hb2⟩ : ∃ b2, rows2.map ltRow = b2 := ⟨_, rfl⟩
        have hbl2 : b2.length = rows2.length := by rw [← hb2, List.length_map]
        have hsy := sync_any ⟨nm2, vl2, nx2, hi2, rows2, az2, cz2⟩ lr (.slice a n c) expunge cond w7 (by rw [hlr.out]; omega) (by show rows2.length ≤ 100000; omega) (hz7.out.ownC 0 rfl).rd.ranges hl7.out.now hfl2.out
        dsimp only at hsy
        rw [hb2] at hsy
        replace hsy := Lib.hid hsy
        replace hbl2 := Lib.hid hbl2
        obtain ⟨hbV, -⟩ := hz7.out.box 1 rfl
        have v0 : w7.cell? ⟨VX, 0, none⟩ = some (.string nm2) := box_cell hbV 0
        have v1 : w7.cell? ⟨VX, 1, none⟩ = some (.int .u64 vl2) := box_cell hbV 1
        have v2 : w7.cell? ⟨VX, 2, none⟩ = some (.slice a n c) := box_cell hbV 2
        obtain ⟨hbQ, -⟩ := hz7.out.box 2 rfl
        have y0 : w7.cell? ⟨QB, 0, none⟩ = some (.string nm2) := box_cell hbQ 0
        have y1 : w7.cell? ⟨QB, 1, none⟩ = some (.int .u64 vl2) := box_cell hbQ 1
        have y2 : w7.cell? ⟨QB, 2, none⟩ = some (.int .u64 nx2) := box_cell hbQ 2
        have y3 : w7.cell? ⟨QB, 3, none⟩ = some (.int .u64 hi2) := box_cell hbQ 3
        have y4 : w7.cell? ⟨QB, 4, none⟩ = some (.slice az2 rows2.length cz2) := box_cell hbQ 4
        clear hbQ hbV hb2 hg1 hg2 hcq hg0 hl1
        replace hw1 := Lib.hid hw1
        go_wp2_with fail
        refine hsy.out.mono ?_
        rintro e w8 ⟨v3, vo3, rps3, rfl, hz8, hsay⟩
        obtain ⟨l1, hl1e⟩ : ∃ l1, syncL lr b2 expunge = l1 := ⟨_, rfl⟩
        have hsl := syncL_len lr b2 expunge
        have hrun := run_tell lr b2 expunge
        have hle := tellR_le lr b2 expunge
        have htl := tellR_len lr b2 expunge
        rw [hl1e] at hz8 hsl hrun
        rw [← hsay.out] at hrun hle htl
        rw [hlr.out] at hrun hle htl hsl
        rw [hbl2.out] at hle hsl
        rw [List.length_map] at htl
        obtain ⟨a3, c3, hv3⟩ := (hz8.out.ownC 1 rfl).len
        obtain ⟨ao3, co3, hvo3⟩ := (hz8.out.own 0 rfl).len
        obtain ⟨n3, hn3⟩ : ∃ n3, l1.length = n3 := ⟨_, rfl⟩
        rw [hn3] at hv3 hsl hrun
        have hn3u : n3 ≤ 32 * (q + 1) + 32 := by omega
        have hnu : Hid (∀ r ∈ rps3, r.n ≤ 10000) := Lib.hid (fun r hr => by
          have := hle r.say (List.mem_map.2 ⟨r, hr, rfl⟩)
          have h2 : r.n ≤ n + rows2.length := this
          omega)
        have hrpl : rps3.length ≤ 100000 := by omega
        replace hn3 := Lib.hid hn3
        replace hrun := Lib.hid hrun
        subst hv3 hvo3
        have hz9 := hz7.out.join hz8.out
        have hz10 := Lib.hid (hz9.newBox [.string nm2, .int .u64 vl2, .slice a3 n3 c3].toArray 38)
        have bl10 := (hz8.out.bel).alloc hz8.out.bel.size (.cells [.string nm2, .int .u64 vl2, .slice a3 n3 c3].toArray 38)
        have hs10 := Lib.hid (hs7.out.below bl10)
        have hl10 := Lib.hid (hl7.out.below bl10)
        have lt10 := Lib.hid (ltL_below lt7.out bl10.size)
        generalize hWX : w8.heap.size = WX at hz10
        clear hsy hz7 hs7 hl7 lt7 hz8 hz9 bl10 hsay hle htl hsl hl1e y0 y1 y2 y3 y4 v0 v1 v2
        go_upto_region 14 with fail
        clear hWX
        generalize (w8.alloc (.cells [.string nm2, .int .u64 vl2, .slice a3 n3 c3].toArray 38)) = w10 at hz10 hs10 hl10 lt10 ⊢
        have hrp : Hid (∀ j (hj : j < rps3.length), ∃ g cap, (Value.slice ao3 rps3.length co3) = .slice (some ⟨g, 0, none⟩) rps3.length cap ∧ ∀ w', Below w10.heap.size w10 w' → ∀ r u, (rpCells rps3[j])[r]? = some u → w'.cell? ⟨g, j * 10 + r, none⟩ = some u) := Lib.hid (fun j hj => by
          obtain ⟨g, cap, hvo, -, hgl, hrc⟩ := (hz10.out.own 1 rfl).cells (j := j) hj
          refine ⟨g, cap, hvo, fun w' hB r u hu => (hB.cell (p := ⟨g, j * 10 + r, none⟩) hgl).trans ?_⟩
          have hr10 : r < 10 := (List.getElem?_eq_some_iff.1 hu).1
          exact (hrc r hr10).trans hu)
        go_wp2_with fail
        go_loopw [11, 16] (fun v11 v16 wr => ∃ (p k : Nat), v16 = .int .i64 p ∧ v11 = .int .u64 k ∧ p ≤ rps3.length ∧ k ≤ 20000 ∧ Hid (runR expunge k ((rps3.map Rp.say).drop p) = some n3) ∧ Hid (Below w10.heap.size w10 wr)) (fun _ v16 _ => rps3.length - (intOf v16).toNat)
        case atStart => exact ⟨0, n, rfl, rfl, Nat.zero_le _, by omega, hrun, Lib.hid (Below.refl _ _)⟩
        case round =>
          clear hrun
          obtain ⟨p, k, rfl, rfl, hp, hku, hrun, hb⟩ := hrel
          have hw2 : IntKind.i64.wrap ((p : Int) + 1) = (p : Int) + 1 := by rw [IntKind.wrap_i64]; omega
          by_cases hlt2 : p < rps3.length
          · obtain ⟨g, cap, hv, hc⟩ := hrp.out p hlt2
            injection hv with e1 e2 e3
            subst e1 e3
            have hce := hc _ hb.out
            have hN := hnu.out _ (List.getElem_mem hlt2)
            have hr1 := hrun.out
            rw [List.drop_eq_getElem_cons (by rw [List.length_map]; exact hlt2), List.getElem_map] at hr1
            obtain ⟨⟨kd, N, va, vn, vc⟩, hx⟩ : ∃ x, rps3[p] = x := ⟨_, rfl⟩
            rw [hx] at hce hN hr1
            have hr2' := Lib.hid (runR_cons (show runR expunge k ((kd, N) :: _) = some n3 from hr1))
            unfold rpCells at hce
            dsimp only at hce hN
            have hl1' : (p : Int) < (rps3.length : Int) := by omega
            have hi0' : (0 : Int) ≤ (p : Int) := by omega
            have hzR := (Zoo.nil wr).newBox [.int .i64 kd, .string ⟨#[]⟩, .string ⟨#[]⟩, .string ⟨#[]⟩, .int .u64 N, .slice none 0 0, .int .u64 0, .slice none 0 0, .string ⟨#[]⟩, .slice va vn vc].toArray 51
            have hbn := Lib.hid (hb.out.alloc hb.out.size (.cells [.int .i64 kd, .string ⟨#[]⟩, .string ⟨#[]⟩, .string ⟨#[]⟩, .int .u64 N, .slice none 0 0, .int .u64 0, .slice none 0 0, .string ⟨#[]⟩, .slice va vn vc].toArray 51))
            generalize hRX : wr.heap.size = RX at hzR
            replace hzR := Lib.hid hzR
            replace hce := Lib.hid hce
            clear hc hx e2 hr1 hrun
            go_upto_region 18 with (refine wpList_load_cells rfl 51 (.tmp 73) rfl g (p * 10) [.int .i64 kd, .string ⟨#[]⟩, .string ⟨#[]⟩, .string ⟨#[]⟩, .int .u64 N, .slice none 0 0, .int .u64 0, .slice none 0 0, .string ⟨#[]⟩, .slice va vn vc] rfl Tryz.isAgg51 Tryz.sizeOf51 hce.out ?_)
            generalize (wr.alloc (.cells [.int .i64 kd, .string ⟨#[]⟩, .string ⟨#[]⟩, .string ⟨#[]⟩, .int .u64 N, .slice none 0 0, .int .u64 0, .slice none 0 0, .string ⟨#[]⟩, .slice va vn vc].toArray 51)) = w11 at hzR hbn ⊢
            obtain ⟨hbR, -⟩ := hzR.out.box 0 rfl
            have k0 : w11.cell? ⟨RX, 0, none⟩ = some (.int .i64 kd) := box_cell hbR 0
            have k4 : w11.cell? ⟨RX, 4, none⟩ = some (.int .u64 N) := box_cell hbR 4
            clear hbR hRX hce hzR
            rcases hr2'.out with ⟨hk9, hN1, hNk, hex, hrr⟩ | ⟨hk9, hNk, hrr⟩ | ⟨hk9, hN1, hNk, hrr⟩ | ⟨hk9, hk8, hk14, hrr⟩
            · subst hk9
              replace k0 : w11.cell? ⟨RX, 0, none⟩ = some (.int .i64 9) := k0
              have hc1 : ¬ (N : Int) < 1 := by omega
              have hc2 : ¬ (k : Int) < (N : Int) := by omega
              have hwk : IntKind.u64.wrap ((k : Int) - 1) = ((k - 1 : Nat) : Int) := by rw [IntKind.wrap_u64]; omega
              replace hex := hex
              replace hrr := Lib.hid hrr
              go_wp2_with fail
              go_roundw
              case rel => exact ⟨p + 1, k - 1, by congr 1, rfl, by omega, by omega, hrr, hbn⟩
              case measure => simp [intOf] <;> omega
            · subst hk9
              replace k0 : w11.cell? ⟨RX, 0, none⟩ = some (.int .i64 8) := k0
              have hc1 : ¬ (N : Int) ≤ (k : Int) := by omega
              go_wp2_with fail
              go_roundw
              case rel => exact ⟨p + 1, N, by congr 1, rfl, by omega, by omega, Lib.hid hrr, hbn⟩
              case measure => simp [intOf] <;> omega
            · subst hk9
              replace k0 : w11.cell? ⟨RX, 0, none⟩ = some (.int .i64 14) := k0
              have hc1 : ¬ (N : Int) < 1 := by omega
              have hc2 : ¬ (k : Int) < (N : Int) := by omega
              go_wp2_with fail
              go_roundw
              case rel => exact ⟨p + 1, k, by congr 1, rfl, by omega, by omega, Lib.hid hrr, hbn⟩
              case measure => simp [intOf] <;> omega
            · have hc1 : ((kd : Int) == 9) = false := beq_false_of_ne (by omega)
              have hc2 : ((kd : Int) == 8) = false := beq_false_of_ne (by omega)
              have hc3 : ((kd : Int) == 14) = false := beq_false_of_ne (by omega)
              go_wp2_with fail
              go_roundw
              case rel => exact ⟨p + 1, k, by congr 1, rfl, by omega, by omega, Lib.hid hrr, hbn⟩
              case measure => simp [intOf] <;> omega
          · have hl1' : ¬ (p : Int) < (rps3.length : Int) := by omega
            have hkn : k = n3 := by
              have := hrun.out
              rw [List.drop_of_length_le (by rw [List.length_map]; omega)] at this
              exact Option.some.inj this
            subst hkn
            have hzE := Lib.hid (hz10.out.below hb.out)
            have hsE := Lib.hid (hs10.out.below hb.out)
            have hlE := Lib.hid (hl10.out.below hb.out)
            have ltE := Lib.hid (ltL_below lt10.out hb.out.size)
            have hwn : IntKind.u64.wrap (k : Int) = (k : Int) := by rw [IntKind.wrap_u64]; omega
            have hne : ((k : Int) != (k : Int)) = false := by simp
            obtain ⟨hbX, -⟩ := hzE.out.box 0 rfl
            have x0 : wr.cell? ⟨WX, 0, none⟩ = some (.string nm2) := box_cell hbX 0
            have x1 : wr.cell? ⟨WX, 1, none⟩ = some (.int .u64 vl2) := box_cell hbX 1
            have x2 : wr.cell? ⟨WX, 2, none⟩ = some (.slice a3 k c3) := box_cell hbX 2
            obtain ⟨hbV, -⟩ := hzE.out.box 4 rfl
            have y0 : wr.cell? ⟨VX, 0, none⟩ = some (.string nm2) := box_cell hbV 0
            have y1 : wr.cell? ⟨VX, 1, none⟩ = some (.int .u64 vl2) := box_cell hbV 1
            have y2 : wr.cell? ⟨VX, 2, none⟩ = some (.slice a n c) := box_cell hbV 2
            have f0 := box_free hbV 0
            have f1 := box_free hbV 1
            have f2 := box_free hbV 2
            have hzF := hzE.out.fillBox 4 rfl [.string nm2, .int .u64 vl2, .slice a3 k c3] rfl
            have hsF := hsE.out.setL (B := VX) (by simp) [.string nm2, .int .u64 vl2, .slice a3 k c3]
            have hlF := hlE.out.setL (B := VX) (by simp) [.string nm2, .int .u64 vl2, .slice a3 k c3]
            have ltF := ltL_below ltE.out (Nat.le_of_eq (KeptB.sets [.string nm2, .int .u64 vl2, .slice a3 k c3] 0 (KeptB.refl wr VX)).size.symm)
            simp only [World.setCells, Nat.zero_add] at hzF hsF hlF ltF
            have hzG := Lib.hid (hzF.sub (L' := [_, _, _, _]) (List.Sublist.cons _ (List.Sublist.cons _ (List.Sublist.cons_cons _ (List.Sublist.cons _ (List.Sublist.cons_cons _ (List.Sublist.cons_cons _ (List.Sublist.cons_cons _ (List.nil_sublist _)))))))))
            replace hsF := Lib.hid hsF
            replace hlF := Lib.hid hlF
            replace ltF := Lib.hid ltF
            clear hbX hbV hz10 hs10 hl10 lt10 hrp hnu hrun hb hzE hsE hlE ltE hzF hw2 hp hlt2
            replace hw1 := hw1.out
            go_upto_region 8 with fail
            clear x0 x1 x2 y0 y1 y2 f0 f1 f2 hwn hne
            generalize ((wr.setCell ⟨VX, 0, none⟩ _).setCell ⟨VX, 1, none⟩ _).setCell ⟨VX, 2, none⟩ _ = w12 at hzG hsF hlF ltF ⊢
            go_wp2_with fail
            go_roundw
            case rel => exact ⟨q + 1, m2, C2, ⟨nm2, vl2, nx2, hi2, rows2, az2, cz2⟩, l1, k, a3, c3, by congr 1, rfl, by omega, by omega, hn3, hC26, hC21, hr2, hf2, Lib.hid rfl, hzG, hsF, hlF, ltF⟩
            case measure => simp [intOf] <;> omega
      · have hl1 : ¬ (q : Int) < (l.length : Int) := by omega
        have hbE := Lib.hid hz.out.bel
        go_wp2_with fail
        go_ret
        exact ⟨rfl, by first | exact hbE.out | (rw [← hMB]; exact hbE.out)⟩
end Go.Proofs.YtcnebfmlelcliaaGreat
namespace Go.Proofs.YtcnebfmlelcliaaGreat
open Go.RowKit
theorem viewCounts_any (sv lv : Value) (expunge cond : Bool) (W : World) (hs : ∃ m : Ml, MlIn W sv m) (hl : ∃ l : List RqP, RqsIn W lv l) :
    Calls Tryz.prog 4 #[sv, lv, .bool expunge, .bool cond] W fun e w' => e = .returned (.bool true) ∧ Below W.heap.size W w' := by
  obtain ⟨m, hin⟩ := hs
  obtain ⟨l, hlq⟩ := hl
  exact viewCounts_walk lv sv m l expunge cond W hin hlq
end Go.Proofs.YtcnebfmlelcliaaGreat
