/- ViewSets: walked. (written by tools/gen_VlV.py) -/
import Derived.Test.YtcnebfmlelcliaaB12
import Derived.Test.YtcnebfmlelcliaaB18
import Derived.Test.YtcnebfmlelcliaaB11
namespace Go.Proofs.Ytcnebfmlelcliaa
set_option linter.unusedSimpArgs false
open Go.RowKit
attribute [local go_sem ↓] Go.wp_at_zero Go.wp_at_succ

theorem meantS_any (s : ByteArray) (val : Nat) (rs l : List (Nat × Nat)) (v vl : Value) (byUid : Bool) (w : World) (hl : l.length ≤ 1000000) (hl2 : rs.length ≤ 1000000) (hk : RangesIn w w.heap.size v l) (hr : RangesIn w w.heap.size vl rs) :
    Calls Try.prog 14 #[.agg #[.string s, .int .u64 val, v], vl, .bool byUid] w (VMeantRet rs l byUid w) := by
  cases byUid with
  | true => exact meantUid_any s val rs l v vl w hl hl2 hk hr
  | false => exact meantNum_any s val rs l v vl w hl hl2 hk hr
theorem rqs_nil (W : World) : RqsIn W (.slice none 0 0) [] := ⟨(RT.Own.nil rqT W).rd, fun p hp => by cases hp⟩
/-- the rows of a right mailbox: they rise, and are numbers of 64 bits -/
theorem rows_facts {z : BxV} {n : Nat} (h : BoxP z.b n) (he : rowsB z.b = z.rows.map ltRow) : (z.rows.map ltRow).Pairwise (fun x y => x.1 < y.1) ∧ (∀ r ∈ z.rows.map ltRow, 1 ≤ r.1) ∧ ∀ r ∈ z.rows.map ltRow, r.1 < 18446744073709551616 := by
  refine ⟨by rw [← he]; exact rowsB_up h, fun r hr => ?_, fun r hr => ?_⟩
  all_goals
    obtain ⟨y, hy, rfl⟩ := List.mem_map.1 hr
    have h1 := h.lets y.x (List.mem_map.2 ⟨y, hy, rfl⟩)
    have h2 := h1.u1
    have h3 := h1.u2
    have h4 := h.n2
    have e : (ltRow y).1 = y.x.uid := rfl
    rw [e]
    omega
theorem meantN_lt {rs l : List (Nat × Nat)} {b : Bool} (h : ∀ r ∈ l, r.1 < 18446744073709551616) : ∀ x ∈ meantN rs l b l.length, x < 18446744073709551616 := fun x hx => by
  obtain ⟨i, h1, -, h3⟩ := mem_meantN.1 hx
  rw [← h3]
  exact h _ (getD_mem_ h1)
theorem norm_short {ts : List Nat} {l : List (Nat × Nat)} {us : List Nat} {b : Bool} (hr : Rising (picksN l us b) ts) (hu : us.length ≤ 1000) : (normF ts).length ≤ 1000000 := by
  have h1 := normF_len ts []
  have h2 : ts.length ≤ (picksN l us b).length := nodup_len ts _ hr.1.1 (fun x hx => ((hr.2 x).1 hx).2)
  have h3 := picksN_len l b us
  simp only [List.length_nil, Nat.zero_add] at h1
  show (ts.foldl normStep []).length ≤ _
  omega
set_option maxRecDepth 100000 in
set_option maxHeartbeats 32000000 in
theorem viewSets_walk (v vl : Value) (m : Ml) (rs : List (Nat × Nat)) (byUid : Bool) (W : World) (hin : MlIn W v m) (hr : RangesIn W W.heap.size vl rs) :
    Calls Try.prog 4 #[v, vl, .bool byUid] W fun e w' => e = .returned (.bool true) ∧ Below W.heap.size W w' := by
  have hr0 := Lib.hid (fun (w' : World) (h : Below W.heap.size W w') => hr.on h)
  have hi0 := Lib.hid (fun (w' : World) (h : Below W.heap.size W w') => hin.below h)
  obtain ⟨ab, cb, nb, ah, ch, as_, cs, rfl⟩ := hin.out_
  obtain ⟨al, cl, hv, -⟩ := hr
  subst hv
  have hz2 := (Zoo.nil W).newBox (sC ab nb cb m ah ch as_ cs).toArray 47
  have lt2 := ltL_alloc (L := []) (w := W) (fun b hb => by cases hb) (.cells (sC ab nb cb m ah ch as_ cs).toArray 47)
  generalize hMB : W.heap.size = MB at hz2 lt2
  generalize hWb : (W.alloc (.cells (sC ab nb cb m ah ch as_ cs).toArray 47)) = Wb at hz2 lt2
  unfold sC at hWb
  have hal := Lib.hid (aliveV_any Wb)
  replace hz2 := Lib.hid hz2
  replace lt2 := Lib.hid lt2
  clear hin
  go_enter Try.func4, Try.ntmps4
  go_upto_region 1 with fail
  clear hWb
  go_wp2_with fail
  refine hal.out.mono ?_
  rintro e w1 ⟨rfl, hb1⟩
  have hz3 := Lib.hid (hz2.out.below hb1.out)
  have lt3 := Lib.hid (ltL_below lt2.out hb1.out.size)
  clear hal hz2 lt2 hb1
  obtain ⟨hbM, -⟩ := hz3.out.box 0 rfl
  have x0 : w1.cell? ⟨MB, 0, none⟩ = some (.slice ab nb cb) := box_cell hbM 0
  have x1 : w1.cell? ⟨MB, 1, none⟩ = some (.int .u64 m.nv) := box_cell hbM 1
  have x2 : w1.cell? ⟨MB, 2, none⟩ = some (.slice ah m.homes.length ch) := box_cell hbM 2
  have x3 : w1.cell? ⟨MB, 3, none⟩ = some (.slice as_ m.seats.length cs) := box_cell hbM 3
  have x4 : w1.cell? ⟨MB, 4, none⟩ = some (.int .u64 m.ns) := box_cell hbM 4
  have x5 : w1.cell? ⟨MB, 5, none⟩ = some (.int .u64 m.sweeps) := box_cell hbM 5
  have hgr := Lib.hid (great_any_vw _ (.slice none 0 0) (hi0.out w1 hz3.out.bel) (rqs_nil w1))
  clear hbM
  go_wp2_with fail
  refine hgr.out.mono ?_
  rintro e w2 ⟨rfl, hb2⟩
  have hz4 := Lib.hid (hz3.out.below hb2.out)
  have lt4 := Lib.hid (ltL_below lt3.out hb2.out.size)
  clear hgr hz3 lt3 hb2 x0 x1 x2 x3 x4 x5
  simp only [List.map_nil]
  have hal2 := Lib.hid (aliveV_any w2)
  cases hL : lightB m [] with
  | false =>
    replace hL := Lib.hid hL
    go_wp2_with fail
    refine hal2.out.mono ?_
    rintro e w3 ⟨rfl, hb3⟩
    have hbE := Lib.hid (hz4.out.below hb3.out).bel
    go_wp2_with fail
    go_ret
    exact ⟨rfl, by first | exact hbE.out | (rw [← hMB]; exact hbE.out)⟩
  | true =>
    have hask := Lib.hid (light_ask hL)
    replace hL := Lib.hid hL
    by_cases c1 : 100 < rs.length
    · have c1' : (100 : Int) < (rs.length : Int) := by omega
      go_wp2_with fail
      refine hal2.out.mono ?_
      rintro e w3 ⟨rfl, hb3⟩
      have hbE := Lib.hid (hz4.out.below hb3.out).bel
      go_wp2_with fail
      go_ret
      exact ⟨rfl, by first | exact hbE.out | (rw [← hMB]; exact hbE.out)⟩
    have c1' : ¬ (100 : Int) < (rs.length : Int) := by omega
    have c1b : rs.length ≤ 100 := by omega
    clear hal2 c1
    obtain ⟨hbM, -⟩ := hz4.out.box 0 rfl
    have x0 : w2.cell? ⟨MB, 0, none⟩ = some (.slice ab nb cb) := box_cell hbM 0
    have x1 : w2.cell? ⟨MB, 1, none⟩ = some (.int .u64 m.nv) := box_cell hbM 1
    have x2 : w2.cell? ⟨MB, 2, none⟩ = some (.slice ah m.homes.length ch) := box_cell hbM 2
    have x3 : w2.cell? ⟨MB, 3, none⟩ = some (.slice as_ m.seats.length cs) := box_cell hbM 3
    have x4 : w2.cell? ⟨MB, 4, none⟩ = some (.int .u64 m.ns) := box_cell hbM 4
    have x5 : w2.cell? ⟨MB, 5, none⟩ = some (.int .u64 m.sweeps) := box_cell hbM 5
    have stm : Stay (okL [MB]) w2 fun x => MlIn x (.agg (sC ab nb cb m ah ch as_ cs).toArray) m := (hi0.out W (Below.refl _ _)).stayL hz4.out.bel (fun b hb => by
      rw [List.mem_singleton.1 hb]; exact (hz4.out.box 0 rfl).2)
    have hbg := Lib.hid (begunV_any _ lt4.out stm hask.out)
    unfold sC at hbg
    clear hbM stm
    go_upto_region 3 with fail
    clear c1'
    go_wp2_with fail
    refine hbg.out.mono ?_
    rintro e w3 ⟨sv, z, m0, rfl, hr0', hf0, hs0, hz0, hb3⟩
    obtain ⟨C0, hC0, hC6, hC1⟩ : ∃ C0 : List Value, sv = .agg C0.toArray ∧ C0.length = 6 ∧ ∀ v ∈ C0, v.oneCell' = true := by
      obtain ⟨ab1, cb1, nb1, ah1, ch1, as1, cs1, h⟩ := hs0.out.now.out_
      refine ⟨_, h, rfl, fun v hv => ?_⟩
      simp only [List.mem_cons, List.not_mem_nil, or_false] at hv
      rcases hv with rfl | rfl | rfl | rfl | rfl | rfl <;> rfl
    subst hC0
    obtain ⟨nm, vl, nx, hi, rows, az, cz⟩ := z
    unfold bxAgg bxCells BxV.v
    dsimp only
    have hz5 := (hz4.out.below hb3.out).newBox zMl.toArray 47
    have hl5 := hz0.out.allocL (.cells zMl.toArray 47)
    have lt5 := ltL_alloc (ltL_below lt4.out hb3.out.size) (.cells zMl.toArray 47)
    generalize hAB : w3.heap.size = AB at hz5 hl5 lt5
    generalize hWd : (w3.alloc (.cells zMl.toArray 47)) = w3a at hz5 hl5 lt5
    unfold zMl at hWd
    have hz6 := hz5.newBox zBx.toArray 28
    have hl6 := hl5.allocL (.cells zBx.toArray 28)
    have lt6 := ltL_alloc lt5 (.cells zBx.toArray 28)
    generalize hQB : w3a.heap.size = QB at hz6 hl6 lt6
    generalize hWe : (w3a.alloc (.cells zBx.toArray 28)) = w4 at hz6 hl6 lt6
    unfold zBx at hWe
    have hsm := hz6.boxSome (C := zMl) 1 rfl
    have hz7 := hz6.fillBox (C := zMl) 1 rfl C0 (by rw [hC6]; rfl)
    have hl7 := hl6.setL (B := AB) (by simp) C0
    have lt7 := ltL_below lt6 (Nat.le_of_eq (KeptB.sets C0 0 (KeptB.refl w4 AB)).size.symm)
    have hm1 : Hid (∀ j, j < C0.length → (w4.cell? ⟨AB, 0 + j, none⟩).isSome = true) := Lib.hid (by rw [hC6]; exact hsm.1)
    have hm2 := Lib.hid hsm.2
    have hsz := Lib.hid (fun w : World => (show (Go.sizeOf 47).run Try.prog w = .ok C0.length w from by rw [hC6]; exact Try.sizeOf47 w))
    replace hC1 := Lib.hid hC1
    replace hC6 := Lib.hid hC6
    replace hz7 := Lib.hid hz7
    replace hl7 := Lib.hid hl7
    replace lt7 := Lib.hid lt7
    clear hz5 hl5 lt5 hz6 hl6 lt6 x0 x1 x2 x3 x4 x5 hbg hb3 hs0 hz0 hsm hz4 lt4
    go_wp2_with (refine wpList_store_cells rfl 47 (.tmp 7) (.tmp 31) rfl AB 0 C0 rfl rfl hsz.out hC1.out hm1.out hm2.out ?_; refine Hid.out ?_)
    refine Lib.hid ?_
    generalize w4.setCells AB 0 C0 = w5 at hz7 hl7 lt7 ⊢
    clear hWe hWd hm1 hm2
    obtain ⟨hbQ, -⟩ := hz7.out.box 0 rfl
    have y0 := box_cell hbQ 0
    have y1 := box_cell hbQ 1
    have y2 := box_cell hbQ 2
    have y3 := box_cell hbQ 3
    have y4 := box_cell hbQ 4
    simp [zBx] at y0 y1 y2 y3 y4
    have f0 := box_free hbQ 0
    have f1 := box_free hbQ 1
    have f2 := box_free hbQ 2
    have f3 := box_free hbQ 3
    have f4 := box_free hbQ 4
    have hz8 := Lib.hid (hz7.out.fillBox 0 rfl [.string nm, .int .u64 vl, .int .u64 nx, .int .u64 hi, .slice az rows.length cz] rfl)
    have hl8 := Lib.hid (hl7.out.setL (B := QB) (by simp) [.string nm, .int .u64 vl, .int .u64 nx, .int .u64 hi, .slice az rows.length cz])
    simp only [World.setCells, Nat.zero_add] at hz8 hl8
    clear hbQ
    go_upto_region 4 with fail
    clear y0 y1 y2 y3 y4 f0 f1 f2 f3 f4 hz7 hl7 lt7
    generalize ((((w5.setCell ⟨QB, 0, none⟩ _).setCell ⟨QB, 1, none⟩ _).setCell ⟨QB, 2, none⟩ _).setCell ⟨QB, 3, none⟩ _).setCell ⟨QB, 4, none⟩ _ = w6 at hz8 hl8 ⊢
    obtain ⟨hbQ, -⟩ := hz8.out.box 0 rfl
    have y0 : w6.cell? ⟨QB, 0, none⟩ = some (.string nm) := box_cell hbQ 0
    have y1 : w6.cell? ⟨QB, 1, none⟩ = some (.int .u64 vl) := box_cell hbQ 1
    have y2 : w6.cell? ⟨QB, 2, none⟩ = some (.int .u64 nx) := box_cell hbQ 2
    have y3 : w6.cell? ⟨QB, 3, none⟩ = some (.int .u64 hi) := box_cell hbQ 3
    have y4 : w6.cell? ⟨QB, 4, none⟩ = some (.slice az rows.length cz) := box_cell hbQ 4
    have hbx := box_facts (z := ⟨nm, vl, nx, hi, rows, az, cz⟩) hr0'.out hf0.out
    have hrl : rows.length ≤ 32 := hbx.2.2.1
    have hrf := rows_facts hbx.2.1 hbx.2.2.2.2
    dsimp only at hrf
    obtain ⟨b0, hb0⟩ : ∃ b0, rows.map ltRow = b0 := ⟨_, rfl⟩
    have hbl0 : Hid (b0.length = rows.length) := Lib.hid (by rw [← hb0, List.length_map])
    have hop := openV_any ⟨nm, vl, nx, hi, rows, az, cz⟩ w6 (by show rows.length ≤ 100000; omega) hl8.out.now
    dsimp only at hop
    rw [hb0] at hop hrf
    replace hop := Lib.hid hop
    replace hrf := Lib.hid hrf
    clear hb0 hbQ hbx hr0' hf0
    go_wp2_with fail
    refine hop.out.mono ?_
    rintro e w7 ⟨v1, rfl, hz9⟩
    obtain ⟨a1, c1, hv1⟩ := (hz9.out.ownC 0 rfl).len
    rw [hbl0.out] at hv1
    subst hv1
    have hz10 := hz8.out.join hz9.out
    have hz11 := hz10.newBox [.string nm, .int .u64 vl, .slice a1 rows.length c1].toArray 25
    generalize hVX : w7.heap.size = VX at hz11
    replace hz11 := Lib.hid hz11
    clear hop hz8 hl8 hz9 hz10 y0 y1 y2 y3 y4
    go_upto_region 5 with fail
    clear hVX
    generalize (w7.alloc (.cells [.string nm, .int .u64 vl, .slice a1 rows.length c1].toArray 25)) = w8 at hz11 ⊢
    have hrw : RangesIn w8 w8.heap.size (.slice a1 rows.length c1) b0 := (hz11.out.ownC 1 rfl).rd.ranges
    have hV : Hid (∀ w', Below w8.heap.size w8 w' → w'.cell? ⟨VX, 0, none⟩ = some (.string nm) ∧ w'.cell? ⟨VX, 1, none⟩ = some (.int .u64 vl) ∧ w'.cell? ⟨VX, 2, none⟩ = some (.slice a1 rows.length c1)) := Lib.hid (fun w' hB => by
      have h1 := heap_below (hz11.out.box 0 rfl).1 hB
      exact ⟨box_cell h1 0, box_cell h1 1, box_cell h1 2⟩)
    have hbW := Lib.hid hz11.out.bel
    have hrk := Lib.hid (fun (w' : World) (h : Below w8.heap.size w8 w') => hrw.on h)
    have hr8 := Lib.hid (fun (w' : World) (h : Below w8.heap.size w8 w') => hr0.out w' (hbW.out.trans (h.mono hbW.out.size)))
    have hme := Lib.hid (meantS_any nm vl rs b0 (.slice a1 rows.length c1) (.slice al rs.length cl) byUid w8 (by rw [hbl0.out]; omega) (by omega) hrw (hr8.out w8 (Below.refl _ _)))
    obtain ⟨v0, v1, v2⟩ := hV.out w8 (Below.refl _ _)
    clear hrw hz11
    go_wp2_with fail
    refine hme.out.mono ?_
    rintro e w9 ⟨v3, rfl, ho3, hb3⟩
    dsimp only
    rw [hbl0.out] at ho3 ⊢
    clear hme v0 v1 v2
    obtain ⟨OB, hOB⟩ : ∃ OB, outL rs rows.length = OB := ⟨_, rfl⟩
    rw [hOB] at ho3 ⊢
    have hB9 := Lib.hid (hbW.out.trans (hb3.out.mono hbW.out.size))
    by_cases hno : byUid = false ∧ OB = true
    · obtain ⟨rfl, rfl⟩ := hno
      obtain ⟨a3, c3, hv3⟩ := ho3.out.len
      subst hv3
      simp only [Bool.not_false, Bool.and_self, if_true, Bool.not_true, List.length_nil]
      clear hOB ho3
      go_wp2_with fail
      go_ret
      exact ⟨rfl, by first | exact hB9.out | (rw [← hMB]; exact hB9.out)⟩
    have hyes : (!byUid && OB) = false := by
      cases byUid <;> cases OB <;> simp at hno ⊢
    rw [hyes] at ho3 ⊢
    simp only [Bool.not_false, if_false, Bool.false_eq_true] at ho3 ⊢
    clear hOB hno hyes
    have hbl : b0.length = rows.length := hbl0.out
    rw [← hbl] at ho3
    have hul : (meantN rs b0 byUid b0.length).length ≤ 32 := by have := meantN_len rs b0 byUid b0.length; omega
    have hult := meantN_lt (rs := rs) (b := byUid) hrf.out.2.2
    obtain ⟨us, hus⟩ : ∃ us, meantN rs b0 byUid b0.length = us := ⟨_, rfl⟩
    have hmn := Lib.hid (fun (ts : List Nat) (b' : Bool) (h : Rising (picksN b0 us b') ts) => (set_means (rs := rs) (b := byUid) hrf.out.1 hrf.out.2.1 (by rw [hus]; exact h)).trans hus)
    rw [hus] at ho3 hul hult
    obtain ⟨a3, c3, hv3⟩ := ho3.out.len
    subst hv3
    have hob := Lib.hid (fun (w' : World) (h : Below w9.heap.size w9 w') => (ho3.out.below h).rd)
    obtain ⟨nu, hnu⟩ : ∃ nu, us.length = nu := ⟨_, rfl⟩
    rw [hnu] at hul
    rw [hnu]
    replace hnu := Lib.hid hnu
    replace hult := Lib.hid hult
    have hb89 := hb3
    clear ho3 hus hb3 hbl
    go_wp2_with fail
    go_loopw [12, 13, 14, 15] (fun v12 _ _ _ wr => ∃ q : Nat, v12 = .int .i64 q ∧ q ≤ 2 ∧ Hid (Below w9.heap.size w9 wr)) (fun v12 _ _ _ _ => 2 - (intOf v12).toNat)
    case atStart => exact ⟨0, rfl, by decide, Lib.hid (Below.refl _ _)⟩
    case round =>
      obtain ⟨q, rfl, hq, hb⟩ := hrel
      by_cases hlt : q < 2
      · have hlt1 : (q : Int) < 2 := by omega
        obtain ⟨bq, hby⟩ : ∃ b, ((q : Int) == 0) = b := ⟨_, rfl⟩
        have hbr := Lib.hid (hb89.out.trans (hb.out.mono hb89.out.size))
        have hse := Lib.hid (setV_any nm vl b0 us (.slice a1 rows.length c1) (.slice a3 nu c3) bq wr (by rw [hbl0.out]; omega) (by rw [hnu.out]; omega) hult.out (hrk.out wr hbr.out) (by have := hob.out wr hb.out; rwa [hnu.out] at this ⊢))
        obtain ⟨v0, v1, v2⟩ := hV.out wr hbr.out
        go_upto_region 11 with fail
        go_wp2_with fail
        refine hse.out.mono ?_
        rintro e w10 ⟨v6, ts, rfl, hri, ho6, hb6⟩
        have hbr6 := Lib.hid (hbr.out.trans (hb6.out.mono hbr.out.size))
        have hb06 := Lib.hid (hb.out.trans (hb6.out.mono hb.out.size))
        have hnl := norm_short hri.out (by rw [hnu.out]; omega)
        have hme := meantS_any nm vl (normF ts) b0 (.slice a1 rows.length c1) v6 bq w10 (by rw [hbl0.out]; omega) hnl (hrk.out w10 hbr6.out) ho6.out.ranges
        unfold VMeantRet at hme
        have hin : (!bq && outL (normF ts) b0.length) = false := by
          cases bq with
          | true => rfl
          | false => rw [set_in hri.out]; rfl
        rw [hin, hmn.out ts bq hri.out] at hme
        simp only [Bool.not_false, if_false, Bool.false_eq_true] at hme
        obtain ⟨a6, c6, hv6⟩ := ho6.out.len
        subst hv6
        generalize (normF ts).length = n6 at hme
        replace hme := Lib.hid hme
        clear hse v0 v1 v2 hbr hb hb6 ho6 hnl hin hri
        obtain ⟨v0, v1, v2⟩ := hV.out w10 hbr6.out
        go_upto_region 12 with fail
        go_wp2_with fail
        refine hme.out.mono ?_
        rintro e w11 ⟨v7, rfl, ho7, hb7⟩
        dsimp only
        have hb07 := Lib.hid (hb06.out.trans (hb7.out.mono hb06.out.size))
        have hsn := Lib.hid (sameNums_any v7 (.slice a3 nu c3) us us w11 ho7.out.rd (by have := hob.out w11 hb07.out; rwa [hnu.out] at this ⊢) (by rw [hnu.out]; omega))
        rw [decide_eq_true rfl] at hsn
        obtain ⟨a7, c7, hv7⟩ := ho7.out.len
        rw [hnu.out] at hv7
        subst hv7
        clear hme v0 v1 v2 hbr6 hb06 hb7 ho7
        go_upto_region 13 with fail
        go_wp2_with fail
        refine hsn.out.mono ?_
        rintro e w12 ⟨rfl, hb8⟩
        dsimp only
        have hb08 := Lib.hid (hb07.out.trans (hb8.mono hb07.out.size))
        clear hsn hb8 hb07
        go_wp2_with fail
        go_roundw
        case rel => exact ⟨q + 1, by go_num, by omega, hb08⟩
        case measure => simp [intOf] <;> omega
      · obtain rfl : q = 2 := by omega
        have hbE := Lib.hid (hB9.out.trans (hb.out.mono hB9.out.size))
        go_wp2_with fail
        go_ret
        exact ⟨rfl, by first | exact hbE.out | (rw [← hMB]; exact hbE.out)⟩
end Go.Proofs.Ytcnebfmlelcliaa
