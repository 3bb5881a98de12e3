/- The document's Open and Told of views: walked. ViewFollows: walked. (written by tools/gen_VqF.py) ViewFollows as its card calls it. -/
import Derived.Test.YtcnebfmlelcliaaGreatB25
import Derived.Test.YtcnebfmlelcliaaGreatB26
namespace Go.Proofs.YtcnebfmlelcliaaGreat
set_option linter.unusedSimpArgs false
open Go.RowKit
attribute [local go_sem ↓] Go.wp_at_zero Go.wp_at_succ

set_option maxRecDepth 100000 in
set_option maxHeartbeats 16000000 in
theorem refOpenV_any (z : BxV) (W : World) (hzl : z.rows.length ≤ 100000) (hb : LtsIn W z.v z.rows) :
    Calls Tryz.prog 13 #[.agg #[.string z.name, .int .u64 z.validity, .int .u64 z.next, .int .u64 z.high, .slice z.a z.rows.length z.c]] W (ViewRet W z.name z.validity (z.rows.map ltRow)) := by
  obtain ⟨nm, val, nx, hi, rows, a, c⟩ := z
  dsimp only at hzl hb ⊢
  have hb0 := Lib.hid (fun (W' : World) (h : Below W.heap.size W W') => hb.below h)
  have hz1 := (Zoo.nil W).newBox [.string nm, .int .u64 val, .int .u64 nx, .int .u64 hi, .slice a rows.length c].toArray 33
  generalize hBB : W.heap.size = BB at hz1
  generalize hWa : (W.alloc (.cells [.string nm, .int .u64 val, .int .u64 nx, .int .u64 hi, .slice a rows.length c].toArray 33)) = Wa at hz1
  have hz2 := hz1.newBox [.string ⟨#[]⟩, .int .u64 0, .slice none 0 0].toArray 38
  generalize hRB : Wa.heap.size = RB at hz2
  generalize hWb : (Wa.alloc (.cells [.string ⟨#[]⟩, .int .u64 0, .slice none 0 0].toArray 38)) = Wb at hz2
  have hz3 := hz2.newBox [.string nm, .int .u64 val, .slice none 0 0].toArray 38
  generalize hVB : Wb.heap.size = VB at hz3
  replace hz2 := Lib.hid hz2
  replace hz3 := Lib.hid hz3
  clear hb hz1
  go_enter Tryz.func13, Tryz.ntmps13
  go_upto_region 1 with fail
  clear hWa hWb
  obtain ⟨hbB, -⟩ := hz2.out.box 1 rfl
  have y0 : Wb.cell? ⟨BB, 0, none⟩ = some (.string nm) := box_cell hbB 0
  have y1 : Wb.cell? ⟨BB, 1, none⟩ = some (.int .u64 val) := box_cell hbB 1
  clear hbB hz2
  go_upto_region 2 with fail
  clear y0 y1
  generalize (Wb.alloc (.cells [.string nm, .int .u64 val, .slice none 0 0].toArray 38)) = Wc at hz3 ⊢
  have hz4 : Hid (Zoo W Wc [rowT.rowC (.slice none 0 0) ((rows.take 0).map ltRow), boxT VB [.string nm, .int .u64 val, .slice none 0 0].toArray 38, boxT RB [.string ⟨#[]⟩, .int .u64 0, .slice none 0 0].toArray 38, boxT BB [.string nm, .int .u64 val, .int .u64 nx, .int .u64 hi, .slice a rows.length c].toArray 33]) := Lib.hid (hz3.out.newRowC (R := rowT) (Below.refl _ _) (.inl (RT.Own.nil rowT Wc)) (fun g hg => by cases hg))
  clear hz3
  go_wp2_with fail
  go_loopw [4] (fun v4 wr => ∃ (q : Nat) (vr : Value), v4 = .int .i64 q ∧ q ≤ rows.length ∧ Hid (Zoo W wr [rowT.rowC vr ((rows.take q).map ltRow), boxT VB [.string nm, .int .u64 val, vr].toArray 38, boxT RB [.string ⟨#[]⟩, .int .u64 0, .slice none 0 0].toArray 38, boxT BB [.string nm, .int .u64 val, .int .u64 nx, .int .u64 hi, .slice a rows.length c].toArray 33])) (fun v4 _ => rows.length - (intOf v4).toNat)
  case atStart => exact ⟨0, _, rfl, Nat.zero_le _, hz4⟩
  case round =>
    clear hz4
    obtain ⟨q, vr, rfl, hq, hz⟩ := hrel
    obtain ⟨hbB, -⟩ := hz.out.box 3 rfl
    have y4 : wr.cell? ⟨BB, 4, none⟩ = some (.slice a rows.length c) := box_cell hbB 4
    by_cases hlt : q < rows.length
    · obtain ⟨b, o, cap', hv, hbB', -⟩ := (hb0.out W (Below.refl _ _)).at_ hlt
      injection hv with q1 q2 q3
      subst q1 q3
      have hcel : ∀ W', Below W.heap.size W W' → W'.cell? ⟨b, o + q * 5, none⟩ = some (.int .u64 rows[q].x.uid) ∧ W'.cell? ⟨b, o + q * 5 + 2, none⟩ = some (.int .u64 rows[q].x.mod) := fun W' hB => by
        obtain ⟨b', o', cap'', hv, -, r0, -, r2, -⟩ := (hb0.out W' hB).at_ hlt
        injection hv with q1 q2 q3
        injection q1 with q1
        injection q1 with q1 q4
        subst q1 q4
        exact ⟨r0, r2⟩
      have hnx : Hid ((rows.take (q + 1)).map ltRow = (rows.take q).map ltRow ++ [(rows[q].x.uid, rows[q].x.mod)]) := Lib.hid (by rw [List.take_succ_eq_append_getElem hlt, List.map_append]; rfl)
      have hln : Hid (((rows.take q).map ltRow).length + 1 ≤ 1000000) := Lib.hid (by rw [List.length_map, List.length_take]; omega)
      obtain ⟨a3, c3, hv3⟩ := (hz.out.ownC 0 rfl).len
      generalize hcu : (rows.take q).map ltRow = cu at hz hnx hln hv3
      obtain ⟨n3, hn3⟩ : ∃ n3, cu.length = n3 := ⟨_, rfl⟩
      rw [hn3] at hv3
      subst hv3
      obtain ⟨uid, huid⟩ : ∃ uid, rows[q].x.uid = uid := ⟨_, rfl⟩
      obtain ⟨md, hmd⟩ : ∃ md, rows[q].x.mod = md := ⟨_, rfl⟩
      rw [huid, hmd] at hcel hnx
      have hl1 : (q : Int) < (rows.length : Int) := by omega
      have hq0 : (0 : Int) ≤ (q : Int) := by omega
      replace hcu := Lib.hid hcu
      replace hn3 := Lib.hid hn3
      replace hcel := Lib.hid hcel
      clear huid hmd hbB' hbB
      go_upto_region 5 with fail
      have hzd := hz.out.drew
      obtain ⟨hbV, -⟩ := hzd.box 1 rfl
      obtain ⟨hbB, -⟩ := hzd.box 3 rfl
      have x2 : wr.drew.cell? ⟨VB, 2, none⟩ = some (.slice a3 n3 c3) := box_cell hbV 2
      have y4' : wr.drew.cell? ⟨BB, 4, none⟩ = some (.slice (some ⟨b, o, none⟩) rows.length c) := box_cell hbB 4
      obtain ⟨r0, r2⟩ := hcel.out _ hzd.bel
      clear y4
      refine wp_region_hd (fun w' => w'.cell? ⟨VB, 2, none⟩ = some (.slice a3 n3 c3) ∧ w'.cell? ⟨BB, 4, none⟩ = some (.slice (some ⟨b, o, none⟩) rows.length c) ∧ w'.cell? ⟨b, o + q * 5, none⟩ = some (.int .u64 uid) ∧ w'.cell? ⟨b, o + q * 5 + 2, none⟩ = some (.int .u64 md)) 17 2 (by kernel_rfl) rfl ⟨by kernel_rfl, by kernel_rfl, by kernel_rfl, by decide⟩ ⟨x2, y4', r0, r2⟩ (fun hok hS0 => ?_)
      generalize wr.drew = wd at *
      refine Hd.take (i := 0) (v := ?tv292) hok rfl (by kernel_rfl) (fun _ _ _ h => h) (Or.inl ⟨by rfl, ?ty292⟩) (by assumption) ?tr292
      case ty292 => (intro w hSw; (try dsimp only at hSw); go_simp; (try with_reducible rfl))
      try simp only [List.getElem_toArray, List.getElem_cons_succ, List.getElem_cons_zero, Act.put, List.setIfInBounds_toArray, List.set_cons_zero, List.set_cons_succ]
      refine Hd.take (i := 1) (v := ?tv293) hok rfl (by kernel_rfl) (fun _ _ _ h => h) (Or.inl ⟨by rfl, ?ty293⟩) (by assumption) ?tr293
      case ty293 => (intro w hSw; (try dsimp only at hSw); go_simp; (try with_reducible rfl))
      try simp only [List.getElem_toArray, List.getElem_cons_succ, List.getElem_cons_zero, Act.put, List.setIfInBounds_toArray, List.set_cons_zero, List.set_cons_succ]
      refine Hd.take (i := 2) (v := ?tv294) hok rfl (by kernel_rfl) (fun _ _ _ h => h) (Or.inl ⟨by rfl, ?ty294⟩) (by assumption) ?tr294
      case ty294 => (intro w hSw; (try dsimp only at hSw); go_simp; (try with_reducible rfl))
      try simp only [List.getElem_toArray, List.getElem_cons_succ, List.getElem_cons_zero, Act.put, List.setIfInBounds_toArray, List.set_cons_zero, List.set_cons_succ]
      refine Hd.take (i := 3) (v := ?tv295) hok rfl (by kernel_rfl) (fun _ _ _ h => h) (Or.inl ⟨by rfl, ?ty295⟩) (by assumption) ?tr295
      case ty295 => (intro w hSw; (try dsimp only at hSw); go_simp; (try with_reducible rfl))
      try simp only [List.getElem_toArray, List.getElem_cons_succ, List.getElem_cons_zero, Act.put, List.setIfInBounds_toArray, List.set_cons_zero, List.set_cons_succ]
      refine Hd.take (i := 4) (v := ?tv296) hok rfl (by kernel_rfl) (fun _ _ _ h => h) (Or.inl ⟨by rfl, ?ty296⟩) (by assumption) ?tr296
      case ty296 => (intro w hSw; (try dsimp only at hSw); go_simp; (try with_reducible rfl))
      try simp only [List.getElem_toArray, List.getElem_cons_succ, List.getElem_cons_zero, Act.put, List.setIfInBounds_toArray, List.set_cons_zero, List.set_cons_succ]
      refine Hd.take (i := 5) (v := ?tv297) hok rfl (by kernel_rfl) (fun _ _ _ h => h) (Or.inl ⟨by rfl, ?ty297⟩) (by assumption) ?tr297
      case ty297 => (intro w hSw; (try dsimp only at hSw); go_simp; (try with_reducible rfl))
      try simp only [List.getElem_toArray, List.getElem_cons_succ, List.getElem_cons_zero, Act.put, List.setIfInBounds_toArray, List.set_cons_zero, List.set_cons_succ]
      refine Hd.take (i := 6) (v := ?tv298) hok rfl (by kernel_rfl) (fun _ _ _ h => h) (Or.inl ⟨by rfl, ?ty298⟩) (by assumption) ?tr298
      case ty298 => (intro w hSw; (try dsimp only at hSw); go_simp; (try with_reducible rfl))
      try simp only [List.getElem_toArray, List.getElem_cons_succ, List.getElem_cons_zero, Act.put, List.setIfInBounds_toArray, List.set_cons_zero, List.set_cons_succ]
      refine Hd.take (i := 7) (v := ?tv299) hok rfl (by kernel_rfl) (fun _ _ _ h => h) (Or.inl ⟨by rfl, ?ty299⟩) (by assumption) ?tr299
      case ty299 => (intro w hSw; (try dsimp only at hSw); go_simp; (try with_reducible rfl))
      try simp only [List.getElem_toArray, List.getElem_cons_succ, List.getElem_cons_zero, Act.put, List.setIfInBounds_toArray, List.set_cons_zero, List.set_cons_succ]
      refine Hd.take (i := 8) (v := ?tv300) hok rfl (by kernel_rfl) (fun _ _ _ h => h) (Or.inl ⟨by rfl, ?ty300⟩) (by assumption) ?tr300
      case ty300 => (intro w hSw; (try dsimp only at hSw); go_simp; (try with_reducible rfl))
      try simp only [List.getElem_toArray, List.getElem_cons_succ, List.getElem_cons_zero, Act.put, List.setIfInBounds_toArray, List.set_cons_zero, List.set_cons_succ]
      refine Hd.take (i := 9) (v := ?tv301) hok rfl (by kernel_rfl) (fun _ _ _ h => h) (Or.inl ⟨by rfl, ?ty301⟩) (by assumption) ?tr301
      case ty301 => (intro w hSw; (try dsimp only at hSw); go_simp; (try with_reducible rfl))
      try simp only [List.getElem_toArray, List.getElem_cons_succ, List.getElem_cons_zero, Act.put, List.setIfInBounds_toArray, List.set_cons_zero, List.set_cons_succ]
      refine Hd.take (i := 10) (v := ?tv302) hok rfl (by kernel_rfl) (fun _ _ _ h => h) (Or.inl ⟨by rfl, ?ty302⟩) (by assumption) ?tr302
      case ty302 => (intro w hSw; (try dsimp only at hSw); go_simp; (try with_reducible rfl))
      try simp only [List.getElem_toArray, List.getElem_cons_succ, List.getElem_cons_zero, Act.put, List.setIfInBounds_toArray, List.set_cons_zero, List.set_cons_succ]
      refine Hd.take (i := 11) (v := ?tv303) hok rfl (by kernel_rfl) (fun _ _ _ h => h) (Or.inl ⟨by rfl, ?ty303⟩) (by assumption) ?tr303
      case ty303 => (intro w hSw; (try dsimp only at hSw); go_simp; (try with_reducible rfl))
      try simp only [List.getElem_toArray, List.getElem_cons_succ, List.getElem_cons_zero, Act.put, List.setIfInBounds_toArray, List.set_cons_zero, List.set_cons_succ]
      refine Hd.take (i := 12) (v := ?tv304) hok rfl (by kernel_rfl) (fun _ _ _ h => h) (Or.inl ⟨by rfl, ?ty304⟩) (by assumption) ?tr304
      case ty304 => (intro w hSw; (try dsimp only at hSw); go_simp; (try with_reducible rfl))
      try simp only [List.getElem_toArray, List.getElem_cons_succ, List.getElem_cons_zero, Act.put, List.setIfInBounds_toArray, List.set_cons_zero, List.set_cons_succ]
      refine Hd.take (i := 13) (v := ?tv305) hok rfl (by kernel_rfl) (fun _ _ _ h => h) (Or.inl ⟨by rfl, ?ty305⟩) (by assumption) ?tr305
      case ty305 => (intro w hSw; (try dsimp only at hSw); go_simp; (try with_reducible rfl))
      try simp only [List.getElem_toArray, List.getElem_cons_succ, List.getElem_cons_zero, Act.put, List.setIfInBounds_toArray, List.set_cons_zero, List.set_cons_succ]
      refine Hd.take (i := 14) (v := ?tv306) hok rfl (by kernel_rfl) (fun _ _ _ h => h) (Or.inl ⟨by rfl, ?ty306⟩) (by assumption) ?tr306
      case ty306 => (intro w hSw; (try dsimp only at hSw); go_simp; (try with_reducible rfl))
      try simp only [List.getElem_toArray, List.getElem_cons_succ, List.getElem_cons_zero, Act.put, List.setIfInBounds_toArray, List.set_cons_zero, List.set_cons_succ]
      refine Hd.one (i := 15) rfl (by kernel_rfl) (fun K hK => ?_)
      go_simp
      have hza := hzd.alloc (.cells (rngCells (uid, md)).toArray 46)
      have hrd := (RT.Own.one rowT wd (uid, md) wd.heap.size rfl).rd
      obtain ⟨hbV2, -⟩ := hza.box 1 rfl
      obtain ⟨hbB2, -⟩ := hza.box 3 rfl
      refine hK _ _ ⟨box_cell hbV2 2, box_cell hbB2 4, hcel.out _ hza.bel⟩ ?_
      clear hK K
      try simp only [List.getElem_toArray, List.getElem_cons_succ, List.getElem_cons_zero, Act.put, List.setIfInBounds_toArray, List.set_cons_zero, List.set_cons_succ]
      refine Hd.one (i := 16) rfl (by kernel_rfl) (fun K hK => ?_)
      refine RT.step_appendC rowT rfl (.tmp 18) (.tmp 32) rfl (.slice a3 n3 c3) _ cu [(uid, md)] rfl rfl (hza.ownC 0 rfl) hrd (by simpa using hln.out) ?_
      intro v6 w6 ho6 hg6 hat6
      rw [← hnx.out] at ho6
      have hz6 := hza.appC 0 rfl ho6 hg6 (fun g hg => (hat6 g hg).imp_right (fun h => by simpa using h))
      obtain ⟨hbV6, -⟩ := hz6.box 1 rfl
      obtain ⟨hbB6, -⟩ := hz6.box 3 rfl
      have x2' : w6.cell? ⟨VB, 2, none⟩ = some (.slice a3 n3 c3) := box_cell hbV6 2
      have f2 : w6.frozen? ⟨VB, 2, none⟩ = false := box_free hbV6 2
      refine hK _ _ ⟨x2', box_cell hbB6 4, hcel.out _ hz6.bel⟩ ?_
      clear hK K
      try simp only [List.getElem_toArray, List.getElem_cons_succ, List.getElem_cons_zero, Act.put, List.setIfInBounds_toArray, List.set_cons_zero, List.set_cons_succ]
      refine Hd.done (by kernel_rfl) ?_
      simp only [List.drop_succ_cons, List.drop_zero]
      have hz7 := Lib.hid (hz6.setBox (C := [_, _, _]) 1 rfl 2 v6)
      obtain ⟨a6, c6, hv6⟩ := ho6.len
      generalize ((rows.take (q + 1)).map ltRow).length = n6 at hv6
      subst hv6
      clear ho6 hg6 hat6 hza hrd hz6 hbV hbB hbV2 hbB2 hbV6 hbB6 hok hS0 x2 y4' r0 r2 hzd hnx hcu hln hz hn3 hcel
      go_wp2_with fail
      go_roundw
      case rel => exact ⟨q + 1, _, by go_num, by omega, hz7⟩
      case measure => simp [intOf] <;> omega
    · obtain rfl : q = rows.length := by omega
      rw [List.take_length] at hz
      obtain ⟨a3, c3, hv3⟩ := (hz.out.ownC 0 rfl).len
      generalize (rows.map ltRow).length = n3 at hv3
      subst hv3
      obtain ⟨hbV, -⟩ := hz.out.box 1 rfl
      have x0 : wr.cell? ⟨VB, 0, none⟩ = some (.string nm) := box_cell hbV 0
      have x1 : wr.cell? ⟨VB, 1, none⟩ = some (.int .u64 val) := box_cell hbV 1
      have x2 : wr.cell? ⟨VB, 2, none⟩ = some (.slice a3 n3 c3) := box_cell hbV 2
      obtain ⟨hbR, -⟩ := hz.out.box 2 rfl
      have z0 : wr.cell? ⟨RB, 0, none⟩ = some (.string ⟨#[]⟩) := box_cell hbR 0
      have z1 : wr.cell? ⟨RB, 1, none⟩ = some (.int .u64 0) := box_cell hbR 1
      have z2 : wr.cell? ⟨RB, 2, none⟩ = some (.slice none 0 0) := box_cell hbR 2
      have f0 := box_free hbR 0
      have f1 := box_free hbR 1
      have f2 := box_free hbR 2
      have hzF := Lib.hid (((hz.out.setBox (C := [_, _, _]) 2 rfl 0 (.string nm)).setBox (C := [_, _, _]) 2 rfl 1 (.int .u64 val)).setBox (C := [_, _, _]) 2 rfl 2 (.slice a3 n3 c3))
      obtain ⟨hbF, -⟩ := hzF.out.box 2 rfl
      replace hbF := Lib.hid hbF
      clear hbV hbR hz hbB
      go_wp2_with fail
      refine bodyPost_ret (results_cell_row rfl _ _ _ 38 _ (0, 0) _ rfl hbF.out Tryz.underlying38 rfl rfl) rfl ?_
      exact ⟨.slice a3 n3 c3, rfl, Lib.hid (hzF.out.sub (List.Sublist.cons_cons _ (List.nil_sublist _)))⟩
theorem tellL_len (l : List (Nat × Nat)) (u m : Nat) : (tellL l u m).length = l.length := by
  unfold tellL
  split
  · rfl
  · rw [List.length_set]
theorem tellL_step {l : List (Nat × Nat)} {u m q : Nat} (hq : q < l.length) : (tellL l u m).take (q + 1) = (tellL l u m).take q ++ [(l[q].1, if q + 1 = seqN l u then m else l[q].2)] := by
  have hq2 : q < (tellL l u m).length := by rw [tellL_len]; exact hq
  have hs := seqN_le l u
  have key : (tellL l u m)[q]? = some (l[q].1, if q + 1 = seqN l u then m else l[q].2) := by
    unfold tellL
    generalize seqN l u = n at hs
    cases n with
    | zero => rw [if_neg (by omega)]; exact List.getElem?_eq_getElem hq
    | succ n =>
      show (l.set n ((l.getD n (0, 0)).1, m))[q]? = _
      rw [List.getElem?_set]
      by_cases e : n = q
      · subst e
        rw [if_pos rfl, if_pos hq, if_pos rfl]
        simp [List.getD, hq]
      · rw [if_neg e, if_neg (by omega)]; exact List.getElem?_eq_getElem hq
  rw [List.getElem?_eq_getElem hq2] at key
  rw [List.take_succ_eq_append_getElem hq2, Option.some.inj key]
end Go.Proofs.YtcnebfmlelcliaaGreat
namespace Go.Proofs.YtcnebfmlelcliaaGreat
set_option linter.unusedSimpArgs false
open Go.RowKit
attribute [local go_sem ↓] Go.wp_at_zero Go.wp_at_succ

theorem follows_len (l b : List (Nat × Nat)) : l.length ≤ (syncL l b false).length := by
  unfold syncL keptL
  simp
theorem follows_fst (l b : List (Nat × Nat)) (p : Nat) (h : p < l.length) (h' : p < (syncL l b false).length) : ((syncL l b false)[p]).1 = (l[p]).1 := by
  have e : syncL l b false = l.map (turnR b) ++ newsL l b := rfl
  rw [List.getElem_of_eq e, List.getElem_append_left (by rw [List.length_map]; exact h), List.getElem_map, turnR_fst]
theorem rowsB_bx (z : BxV) : rowsB z.b = z.rows.map ltRow := by unfold rowsB BxV.b; rw [List.map_map]; rfl
set_option maxRecDepth 100000 in
set_option maxHeartbeats 32000000 in
theorem viewFollows_walk (lv lv2 : Value) (v : Value) (m : Ml) (l ll : List RqP) (W : World) (hin : MlIn W v m) (hl : RqsIn W lv l) (hll : RqsIn W lv2 ll) :
    Calls Tryz.prog 3 #[v, lv, lv2] W fun e w' => e = .returned (.bool true) ∧ Below W.heap.size W w' := by
  have hl0 := Lib.hid (fun (w' : World) (h : Below W.heap.size W w') => hl.below h)
  have hs0 := Lib.hid (fun (w' : World) (h : Below W.heap.size W w') => hll.below h)
  have hi0 := Lib.hid (fun (w' : World) (h : Below W.heap.size W w') => hin.below h)
  obtain ⟨ab, cb, nb, ah, ch, as_, cs, rfl⟩ := hin.out_
  obtain ⟨al, cl, hv, -⟩ := hl.1
  subst hv
  obtain ⟨al2, cl2, hv, -⟩ := hll.1
  subst hv
  have hz2 := (Zoo.nil W).newBox (sC ab nb cb m ah ch as_ cs).toArray 27
  have lt2 := ltL_alloc (L := []) (w := W) (fun b hb => by cases hb) (.cells (sC ab nb cb m ah ch as_ cs).toArray 27)
  generalize hMB : W.heap.size = MB at hz2 lt2
  generalize hWb : (W.alloc (.cells (sC ab nb cb m ah ch as_ cs).toArray 27)) = Wb at hz2 lt2
  unfold sC at hWb
  have hal := Lib.hid (aliveV_any Wb)
  replace hz2 := Lib.hid hz2
  replace lt2 := Lib.hid lt2
  clear hin hl hll
  go_enter Tryz.func3, Tryz.ntmps3
  go_upto_region 1 with fail
  clear hWb
  go_wp2_with fail
  refine hal.out.mono ?_
  rintro e w1 ⟨rfl, hb1⟩
  have hz3 := Lib.hid (hz2.out.below hb1.out)
  have lt3 := Lib.hid (ltL_below lt2.out hb1.out.size)
  clear hal hz2 lt2 hb1
  obtain ⟨hbM, -⟩ := hz3.out.box 0 rfl
  have x0 : w1.cell? ⟨MB, 0, none⟩ = some (.slice ab nb cb) := box_cell hbM 0
  have x1 : w1.cell? ⟨MB, 1, none⟩ = some (.int .u64 m.nv) := box_cell hbM 1
  have x2 : w1.cell? ⟨MB, 2, none⟩ = some (.slice ah m.homes.length ch) := box_cell hbM 2
  have x3 : w1.cell? ⟨MB, 3, none⟩ = some (.slice as_ m.seats.length cs) := box_cell hbM 3
  have x4 : w1.cell? ⟨MB, 4, none⟩ = some (.int .u64 m.ns) := box_cell hbM 4
  have x5 : w1.cell? ⟨MB, 5, none⟩ = some (.int .u64 m.sweeps) := box_cell hbM 5
  have hgr := Lib.hid (great_any_vw _ _ (hi0.out w1 hz3.out.bel) (hl0.out w1 hz3.out.bel))
  clear hbM
  go_wp2_with fail
  refine hgr.out.mono ?_
  rintro e w2 ⟨rfl, hb2⟩
  have hz4 := Lib.hid (hz3.out.below hb2.out)
  have lt4 := Lib.hid (ltL_below lt3.out hb2.out.size)
  clear hgr hz3 lt3 hb2 x0 x1 x2 x3 x4 x5
  cases hL : lightB m (l.map (·.1)) with
  | false =>
    have hal2 := Lib.hid (aliveV_any w2)
    replace hL := Lib.hid hL
    go_wp2_with fail
    refine hal2.out.mono ?_
    rintro e w3 ⟨rfl, hb3⟩
    have hbE := Lib.hid (hz4.out.below hb3.out).bel
    go_wp2_with fail
    go_ret
    exact ⟨rfl, by first | exact hbE.out | (rw [← hMB]; exact hbE.out)⟩
  | true =>
    have hask := Lib.hid (light_ask hL)
    have hrq := Lib.hid (light_rq hL)
    have hlp := Lib.hid (light_parts hL)
    replace hL := Lib.hid hL
    obtain ⟨hbM, -⟩ := hz4.out.box 0 rfl
    have x0 : w2.cell? ⟨MB, 0, none⟩ = some (.slice ab nb cb) := box_cell hbM 0
    have x1 : w2.cell? ⟨MB, 1, none⟩ = some (.int .u64 m.nv) := box_cell hbM 1
    have x2 : w2.cell? ⟨MB, 2, none⟩ = some (.slice ah m.homes.length ch) := box_cell hbM 2
    have x3 : w2.cell? ⟨MB, 3, none⟩ = some (.slice as_ m.seats.length cs) := box_cell hbM 3
    have x4 : w2.cell? ⟨MB, 4, none⟩ = some (.int .u64 m.ns) := box_cell hbM 4
    have x5 : w2.cell? ⟨MB, 5, none⟩ = some (.int .u64 m.sweeps) := box_cell hbM 5
    have hgr := Lib.hid (great_any_vw _ _ (hi0.out w2 hz4.out.bel) (hs0.out w2 hz4.out.bel))
    clear hbM
    go_wp2_with fail
    refine hgr.out.mono ?_
    rintro e w2b ⟨rfl, hb2⟩
    have hz5 := Lib.hid (hz4.out.below hb2.out)
    have lt5 := Lib.hid (ltL_below lt4.out hb2.out.size)
    clear hgr hz4 lt4 hb2 x0 x1 x2 x3 x4 x5
    cases hL2 : lightB m (ll.map (·.1)) with
    | false =>
      have hal2 := Lib.hid (aliveV_any w2b)
      replace hL2 := Lib.hid hL2
      go_wp2_with fail
      refine hal2.out.mono ?_
      rintro e w3 ⟨rfl, hb3⟩
      have hbE := Lib.hid (hz5.out.below hb3.out).bel
      go_wp2_with fail
      go_ret
      exact ⟨rfl, by first | exact hbE.out | (rw [← hMB]; exact hbE.out)⟩
    | true =>
    have hrq2 := Lib.hid (light_rq hL2)
    have hlp2 := Lib.hid (light_parts hL2)
    replace hL2 := Lib.hid hL2
    obtain ⟨hbM, -⟩ := hz5.out.box 0 rfl
    have x0 : w2b.cell? ⟨MB, 0, none⟩ = some (.slice ab nb cb) := box_cell hbM 0
    have x1 : w2b.cell? ⟨MB, 1, none⟩ = some (.int .u64 m.nv) := box_cell hbM 1
    have x2 : w2b.cell? ⟨MB, 2, none⟩ = some (.slice ah m.homes.length ch) := box_cell hbM 2
    have x3 : w2b.cell? ⟨MB, 3, none⟩ = some (.slice as_ m.seats.length cs) := box_cell hbM 3
    have x4 : w2b.cell? ⟨MB, 4, none⟩ = some (.int .u64 m.ns) := box_cell hbM 4
    have x5 : w2b.cell? ⟨MB, 5, none⟩ = some (.int .u64 m.sweeps) := box_cell hbM 5
    have stm : Stay (okL [MB]) w2b fun x => MlIn x (.agg (sC ab nb cb m ah ch as_ cs).toArray) m := (hi0.out W (Below.refl _ _)).stayL hz5.out.bel (fun b hb => by
      rw [List.mem_singleton.1 hb]; exact (hz5.out.box 0 rfl).2)
    have hbg := Lib.hid (begunV_any _ lt5.out stm hask.out)
    unfold sC at hbg
    clear hbM stm
    go_upto_region 3 with fail
    go_wp2_with fail
    refine hbg.out.mono ?_
    rintro e w3 ⟨sv, z, m0, rfl, hr0, hf0, hS0, hz0, hb3⟩
    obtain ⟨C0, hC0, hC6, hC1⟩ : ∃ C0 : List Value, sv = .agg C0.toArray ∧ C0.length = 6 ∧ ∀ v ∈ C0, v.oneCell' = true := by
      obtain ⟨ab1, cb1, nb1, ah1, ch1, as1, cs1, h⟩ := hS0.out.now.out_
      refine ⟨_, h, rfl, fun v hv => ?_⟩
      simp only [List.mem_cons, List.not_mem_nil, or_false] at hv
      rcases hv with rfl | rfl | rfl | rfl | rfl | rfl <;> rfl
    subst hC0
    obtain ⟨nm, vl, nx, hi, rows, az, cz⟩ := z
    unfold bxAgg bxCells BxV.v
    dsimp only
    have hz6 := (hz5.out.below hb3.out).newBox zBx.toArray 33
    have hs6 := hS0.out.allocL (.cells zBx.toArray 33)
    have hl6 := hz0.out.allocL (.cells zBx.toArray 33)
    have lt6 := ltL_alloc (ltL_below lt5.out hb3.out.size) (.cells zBx.toArray 33)
    generalize hQB : w3.heap.size = QB at hz6 hs6 hl6 lt6
    generalize hWe : (w3.alloc (.cells zBx.toArray 33)) = w4 at hz6 hs6 hl6 lt6
    unfold zBx at hWe
    have hsm := hz6.boxSome 1 rfl
    have hz7 := hz6.fillBox 1 rfl C0 (by rw [hC6]; rfl)
    have hs7 := hs6.setL (B := MB) (by simp) C0
    have hl7 := hl6.setL (B := MB) (by simp) C0
    have lt7 := ltL_below lt6 (Nat.le_of_eq (KeptB.sets C0 0 (KeptB.refl w4 MB)).size.symm)
    have hm1 : Hid (∀ j, j < C0.length → (w4.cell? ⟨MB, 0 + j, none⟩).isSome = true) := Lib.hid (by rw [hC6]; exact hsm.1)
    have hm2 := Lib.hid hsm.2
    have hsz := Lib.hid (fun w : World => (show (Go.sizeOf 27).run Tryz.prog w = .ok C0.length w from by rw [hC6]; exact Tryz.sizeOf27 w))
    replace hC1 := Lib.hid hC1
    replace hC6 := Lib.hid hC6
    replace hz7 := Lib.hid hz7
    replace hs7 := Lib.hid hs7
    replace hl7 := Lib.hid hl7
    replace lt7 := Lib.hid lt7
    clear hz6 hs6 hl6 lt6 x0 x1 x2 x3 x4 x5 hbg hb3 hS0 hz0 hsm hz5 lt5
    go_wp2_with (refine wpList_store_cells rfl 27 (.tmp 3) (.tmp 32) rfl MB 0 C0 rfl rfl hsz.out hC1.out hm1.out hm2.out ?_; refine Hid.out ?_)
    refine Lib.hid ?_
    generalize w4.setCells MB 0 C0 = w5 at hz7 hs7 hl7 lt7 ⊢
    clear hWe hm1 hm2
    obtain ⟨hbQ, -⟩ := hz7.out.box 0 rfl
    have y0 := box_cell hbQ 0
    have y1 := box_cell hbQ 1
    have y2 := box_cell hbQ 2
    have y3 := box_cell hbQ 3
    have y4 := box_cell hbQ 4
    simp [zBx] at y0 y1 y2 y3 y4
    have f0 := box_free hbQ 0
    have f1 := box_free hbQ 1
    have f2 := box_free hbQ 2
    have f3 := box_free hbQ 3
    have f4 := box_free hbQ 4
    have hz8 := Lib.hid (hz7.out.fillBox 0 rfl [.string nm, .int .u64 vl, .int .u64 nx, .int .u64 hi, .slice az rows.length cz] rfl)
    have hs8 := Lib.hid (hs7.out.setL (B := QB) (by simp) [.string nm, .int .u64 vl, .int .u64 nx, .int .u64 hi, .slice az rows.length cz])
    have hl8 := Lib.hid (hl7.out.setL (B := QB) (by simp) [.string nm, .int .u64 vl, .int .u64 nx, .int .u64 hi, .slice az rows.length cz])
    have lt8 := Lib.hid (ltL_below lt7.out (Nat.le_of_eq (KeptB.sets [.string nm, .int .u64 vl, .int .u64 nx, .int .u64 hi, .slice az rows.length cz] 0 (KeptB.refl w5 QB)).size.symm))
    simp only [World.setCells, Nat.zero_add] at hz8 hs8 hl8 lt8
    clear hbQ
    go_upto_region 4 with fail
    clear y0 y1 y2 y3 y4 f0 f1 f2 f3 f4 hz7 hs7 hl7 lt7
    generalize ((((w5.setCell ⟨QB, 0, none⟩ _).setCell ⟨QB, 1, none⟩ _).setCell ⟨QB, 2, none⟩ _).setCell ⟨QB, 3, none⟩ _).setCell ⟨QB, 4, none⟩ _ = w6 at hz8 hs8 hl8 lt8 ⊢
    obtain ⟨hbQ, -⟩ := hz8.out.box 0 rfl
    have y0 : w6.cell? ⟨QB, 0, none⟩ = some (.string nm) := box_cell hbQ 0
    have y1 : w6.cell? ⟨QB, 1, none⟩ = some (.int .u64 vl) := box_cell hbQ 1
    have y2 : w6.cell? ⟨QB, 2, none⟩ = some (.int .u64 nx) := box_cell hbQ 2
    have y3 : w6.cell? ⟨QB, 3, none⟩ = some (.int .u64 hi) := box_cell hbQ 3
    have y4 : w6.cell? ⟨QB, 4, none⟩ = some (.slice az rows.length cz) := box_cell hbQ 4
    have hbx := box_facts (z := ⟨nm, vl, nx, hi, rows, az, cz⟩) hr0.out hf0.out
    have hnm : Hid (nm = inboxS) := Lib.hid hbx.1
    have hrl : rows.length ≤ 32 := hbx.2.2.1
    obtain ⟨b0, hb0⟩ : ∃ b0, rows.map ltRow = b0 := ⟨_, rfl⟩
    have hbl0 : Hid (b0.length = rows.length) := Lib.hid (by rw [← hb0, List.length_map])
    have hop := openV_any ⟨nm, vl, nx, hi, rows, az, cz⟩ w6 (by show rows.length ≤ 100000; omega) hl8.out.now
    dsimp only at hop
    rw [hb0] at hop
    replace hop := Lib.hid hop
    replace hb0 := Lib.hid hb0
    clear hbQ hbx
    go_wp2_with fail
    refine hop.out.mono ?_
    rintro e w7 ⟨v1, rfl, hz9⟩
    obtain ⟨a1, c1, hv1⟩ := (hz9.out.ownC 0 rfl).len
    rw [hbl0.out] at hv1
    subst hv1
    have hz10 := hz8.out.join hz9.out
    have hs10 := hs8.out.below hz9.out.bel
    have hl10 := hl8.out.below hz9.out.bel
    have lt10 := ltL_below lt8.out hz9.out.bel.size
    have hz11 := hz10.newBox [.string nm, .int .u64 vl, .slice a1 rows.length c1].toArray 38
    have hs11 := hs10.allocL (.cells [.string nm, .int .u64 vl, .slice a1 rows.length c1].toArray 38)
    have hl11 := hl10.allocL (.cells [.string nm, .int .u64 vl, .slice a1 rows.length c1].toArray 38)
    have lt11 := ltL_alloc lt10 (.cells [.string nm, .int .u64 vl, .slice a1 rows.length c1].toArray 38)
    generalize hVX : w7.heap.size = VX at hz11 hs11 hl11 lt11
    replace hz11 := Lib.hid hz11
    replace hs11 := Lib.hid hs11
    replace hl11 := Lib.hid hl11
    replace lt11 := Lib.hid lt11
    clear hop hz8 hs8 hl8 lt8 hz9 hz10 hs10 hl10 lt10 y0 y1 y2 y3 y4
    go_upto_region 5 with fail
    clear hVX
    generalize (w7.alloc (.cells [.string nm, .int .u64 vl, .slice a1 rows.length c1].toArray 38)) = w8 at hz11 hs11 hl11 lt11 ⊢
    obtain ⟨hbM, -⟩ := hz11.out.box 3 rfl
    have hmc : Hid (∀ j v, C0[j]? = some v → w8.cell? ⟨MB, 0 + j, none⟩ = some v) := Lib.hid (fun j v hj => by rw [Nat.zero_add, box_cell hbM j, List.getElem?_toArray]; exact hj)
    obtain ⟨hbQ, -⟩ := hz11.out.box 2 rfl
    have y0 : w8.cell? ⟨QB, 0, none⟩ = some (.string nm) := box_cell hbQ 0
    have y1 : w8.cell? ⟨QB, 1, none⟩ = some (.int .u64 vl) := box_cell hbQ 1
    have y2 : w8.cell? ⟨QB, 2, none⟩ = some (.int .u64 nx) := box_cell hbQ 2
    have y3 : w8.cell? ⟨QB, 3, none⟩ = some (.int .u64 hi) := box_cell hbQ 3
    have y4 : w8.cell? ⟨QB, 4, none⟩ = some (.slice az rows.length cz) := box_cell hbQ 4
    have hlt := Lib.hid (laterV_any (L := [VX, QB, MB]) (.agg C0.toArray) (.slice al l.length cl) nm vl nx hi az rows.length cz lt11.out hs11.out hr0.out (hl0.out w8 hz11.out.bel) (fun q hq => hrq.out q.1 (List.mem_map.2 ⟨q, hq, rfl⟩)) (by have := hlp.out.2.2.2.1; rw [List.length_map] at this; omega) hnm.out ⟨_, hf0.out, rfl⟩)
    clear hbM hbQ
    go_wp2_with (refine wpList_load_cells rfl 27 (.tmp 3) rfl MB 0 C0 rfl Tryz.isAgg27 hsz.out hmc.out ?_; refine Hid.out ?_)
    refine Lib.hid ?_
    go_wp2_with fail
    refine hlt.out.mono ?_
    rintro e w9 ⟨sv2, z2, rfl, hf2, hs2, hl2, hb9⟩
    obtain ⟨C2, hC2, hC26, hC21⟩ : ∃ C2 : List Value, sv2 = .agg C2.toArray ∧ C2.length = 6 ∧ ∀ v ∈ C2, v.oneCell' = true := by
      obtain ⟨ab1, cb1, nb1, ah1, ch1, as1, cs1, h⟩ := hs2.out.now.out_
      refine ⟨_, h, rfl, fun v hv => ?_⟩
      simp only [List.mem_cons, List.not_mem_nil, or_false] at hv
      rcases hv with rfl | rfl | rfl | rfl | rfl | rfl <;> rfl
    subst hC2
    obtain ⟨nm2, vl2, nx2, hi2, rows2, az2, cz2⟩ := z2
    unfold bxAgg bxCells BxV.v
    dsimp only
    obtain ⟨t, ht, hev⟩ := later_inbox hr0.out hf0.out (l.map (·.1))
    have hr2 := later_right hr0.out (l.map (·.1))
    have hbx2 := box_facts (z := ⟨nm2, vl2, nx2, hi2, rows2, az2, cz2⟩) hr2 hf2.out
    have hev2 : EvoB (BxV.b ⟨nm, vl, nx, hi, rows, az, cz⟩) (BxV.b ⟨nm2, vl2, nx2, hi2, rows2, az2, cz2⟩) := by
      have h1 := hf2.out
      rw [ht] at h1
      rw [← Option.some.inj h1]
      exact hev
    have hvv : vl2 = vl := hev2.val
    have hnn : nm2 = nm := hbx2.1.trans hnm.out.symm
    have hrl2 : rows2.length ≤ 32 := hbx2.2.2.1
    have hfl2 := Lib.hid hbx2.2.2.2.1
    have hbx1 := box_facts (z := ⟨nm, vl, nx, hi, rows, az, cz⟩) hr0.out hf0.out
    have hbp1 := Lib.hid hbx1.2.1
    have hbp2 := Lib.hid hbx2.2.1
    replace hr2 := Lib.hid hr2
    replace hev2 := Lib.hid hev2
    subst hvv hnn
    have hz12 := hz11.out.below hb9.out
    have lt12 := ltL_below lt11.out hb9.out.size
    have hsm := hz12.boxSome 3 rfl
    have hz13 := hz12.fillBox 3 rfl C2 (by rw [hC26, hC6.out])
    have hs13 := hs2.out.setL (B := MB) (by simp) C2
    have hl13 := hl2.out.setL (B := MB) (by simp) C2
    have lt13 := ltL_below lt12 (Nat.le_of_eq (KeptB.sets C2 0 (KeptB.refl w9 MB)).size.symm)
    have hm1 : Hid (∀ j, j < C2.length → (w9.cell? ⟨MB, 0 + j, none⟩).isSome = true) := Lib.hid (by rw [hC26, ← hC6.out]; exact hsm.1)
    have hm2 := Lib.hid hsm.2
    have hsz2 := Lib.hid (fun w : World => (show (Go.sizeOf 27).run Tryz.prog w = .ok C2.length w from by rw [hC26]; exact Tryz.sizeOf27 w))
    replace hC21 := Lib.hid hC21
    replace hC26 := Lib.hid hC26
    replace hz13 := Lib.hid hz13
    replace hs13 := Lib.hid hs13
    replace hl13 := Lib.hid hl13
    replace lt13 := Lib.hid lt13
    clear t ht hev hbx1 hbx2 hlt hz11 hs11 hl11 lt11 hz12 lt12 hb9 hs2 hl2 hmc hsm y0 y1 y2 y3 y4 hC1 hsz hr0
    go_wp2_with (refine wpList_store_cells rfl 27 (.tmp 3) (.tmp 41) rfl MB 0 C2 rfl rfl hsz2.out hC21.out hm1.out hm2.out ?_; refine Hid.out ?_)
    refine Lib.hid ?_
    generalize w9.setCells MB 0 C2 = w10 at hz13 hs13 hl13 lt13 ⊢
    clear hm1 hm2
    obtain ⟨hbQ, -⟩ := hz13.out.box 2 rfl
    have y0 := box_cell hbQ 0
    have y1 := box_cell hbQ 1
    have y2 := box_cell hbQ 2
    have y3 := box_cell hbQ 3
    have y4 := box_cell hbQ 4
    simp at y0 y1 y2 y3 y4
    have f0 := box_free hbQ 0
    have f1 := box_free hbQ 1
    have f2 := box_free hbQ 2
    have f3 := box_free hbQ 3
    have f4 := box_free hbQ 4
    have hz14 := Lib.hid (hz13.out.fillBox 2 rfl [.string nm2, .int .u64 vl2, .int .u64 nx2, .int .u64 hi2, .slice az2 rows2.length cz2] rfl)
    have hs14 := Lib.hid (hs13.out.setL (B := QB) (by simp) [.string nm2, .int .u64 vl2, .int .u64 nx2, .int .u64 hi2, .slice az2 rows2.length cz2])
    have hl14 := Lib.hid (hl13.out.setL (B := QB) (by simp) [.string nm2, .int .u64 vl2, .int .u64 nx2, .int .u64 hi2, .slice az2 rows2.length cz2])
    have lt14 := Lib.hid (ltL_below lt13.out (Nat.le_of_eq (KeptB.sets [.string nm2, .int .u64 vl2, .int .u64 nx2, .int .u64 hi2, .slice az2 rows2.length cz2] 0 (KeptB.refl w10 QB)).size.symm))
    simp only [World.setCells, Nat.zero_add] at hz14 hs14 hl14 lt14
    clear hbQ hz13 hs13 hl13 lt13
    go_upto_region 8 with fail
    clear y0 y1 y2 y3 y4 f0 f1 f2 f3 f4
    generalize ((((w10.setCell ⟨QB, 0, none⟩ _).setCell ⟨QB, 1, none⟩ _).setCell ⟨QB, 2, none⟩ _).setCell ⟨QB, 3, none⟩ _).setCell ⟨QB, 4, none⟩ _ = w11 at hz14 hs14 hl14 lt14 ⊢
    obtain ⟨b2, hb2⟩ : ∃ b2, rows2.map ltRow = b2 := ⟨_, rfl⟩
    have hsy := sync_any ⟨nm2, vl2, nx2, hi2, rows2, az2, cz2⟩ b0 (.slice a1 rows.length c1) false false w11 (by rw [hbl0.out]; omega) (by show rows2.length ≤ 100000; omega) (hz14.out.ownC 1 rfl).rd.ranges hl14.out.now hfl2.out
    dsimp only at hsy
    rw [hb2] at hsy
    replace hsy := Lib.hid hsy
    replace hb2 := Lib.hid hb2
    obtain ⟨hbV, -⟩ := hz14.out.box 0 rfl
    have v0 : w11.cell? ⟨VX, 0, none⟩ = some (.string nm2) := box_cell hbV 0
    have v1 : w11.cell? ⟨VX, 1, none⟩ = some (.int .u64 vl2) := box_cell hbV 1
    have v2 : w11.cell? ⟨VX, 2, none⟩ = some (.slice a1 rows.length c1) := box_cell hbV 2
    obtain ⟨hbQ, -⟩ := hz14.out.box 2 rfl
    have y0 : w11.cell? ⟨QB, 0, none⟩ = some (.string nm2) := box_cell hbQ 0
    have y1 : w11.cell? ⟨QB, 1, none⟩ = some (.int .u64 vl2) := box_cell hbQ 1
    have y2 : w11.cell? ⟨QB, 2, none⟩ = some (.int .u64 nx2) := box_cell hbQ 2
    have y3 : w11.cell? ⟨QB, 3, none⟩ = some (.int .u64 hi2) := box_cell hbQ 3
    have y4 : w11.cell? ⟨QB, 4, none⟩ = some (.slice az2 rows2.length cz2) := box_cell hbQ 4
    clear hbQ hbV
    go_wp2_with fail
    refine hsy.out.mono ?_
    rintro e w12 ⟨v3, vo3, rps3, rfl, hz15, hsay⟩
    obtain ⟨l1, hl1e⟩ : ∃ l1, syncL b0 b2 false = l1 := ⟨_, rfl⟩
    have hfl := follows_len b0 b2
    have hff := Lib.hid (follows_fst b0 b2)
    rw [hl1e] at hz15 hfl
    rw [hl1e] at hff
    obtain ⟨a3, c3, hv3⟩ := (hz15.out.ownC 1 rfl).len
    obtain ⟨ao3, co3, hvo3⟩ := (hz15.out.own 0 rfl).len
    have hno9 : Hid (∀ r ∈ rps3, r.kind ≠ 9) := Lib.hid (fun r hr => tell_no9 (l := b0) (b := b2) r.say (by rw [← hsay.out]; exact List.mem_map.2 ⟨r, hr, rfl⟩))
    have hrpl0 : Hid (rps3.length ≤ 100) := Lib.hid (by
      have h1 := tellR_len b0 b2 false
      have h2 := congrArg List.length hsay.out
      have h3 := hbl0.out
      rw [List.length_map] at h2
      omega)
    obtain ⟨n3, hn3⟩ : ∃ n3, l1.length = n3 := ⟨_, rfl⟩
    rw [hn3] at hv3 hfl
    rw [hbl0.out] at hfl
    have hn3u : n3 ≤ 64 := by
      rw [← hn3, ← hl1e]
      unfold syncL
      have h1 := newsL_len (keptL b0 b2 false) b2
      have h2 : b2.length = rows2.length := by rw [← hb2.out, List.length_map]
      have h3 : (keptL b0 b2 false).length = b0.length := rfl
      have h4 := hbl0.out
      rw [List.length_append, List.length_map]; omega
    replace hn3 := Lib.hid hn3
    replace hl1e := Lib.hid hl1e
    subst hv3 hvo3
    have hz16 := hz14.out.join hz15.out
    have hs16 := hs14.out.below hz15.out.bel
    have hl16 := hl14.out.below hz15.out.bel
    have lt16 := ltL_below lt14.out hz15.out.bel.size
    have hz17 := hz16.newBox [.string nm2, .int .u64 vl2, .slice a3 n3 c3].toArray 38
    have hs17 := hs16.allocL (.cells [.string nm2, .int .u64 vl2, .slice a3 n3 c3].toArray 38)
    have lt17 := ltL_alloc lt16 (.cells [.string nm2, .int .u64 vl2, .slice a3 n3 c3].toArray 38)
    generalize hWX : w12.heap.size = WX at hz17 hs17 lt17
    replace hz17 := Lib.hid hz17
    replace hs17 := Lib.hid hs17
    replace lt17 := Lib.hid lt17
    clear hsy hz14 hs14 hl14 lt14 hz15 hz16 hs16 hl16 lt16 hsay y0 y1 y2 y3 y4 v0 v1 v2
    go_upto_region 9 with fail
    clear hWX
    generalize (w12.alloc (.cells [.string nm2, .int .u64 vl2, .slice a3 n3 c3].toArray 38)) = w13 at hz17 hs17 lt17 ⊢
    have hV : Hid (∀ w', Below w13.heap.size w13 w' → w'.cell? ⟨VX, 2, none⟩ = some (.slice a1 rows.length c1) ∧ w'.cell? ⟨WX, 2, none⟩ = some (.slice a3 n3 c3)) := Lib.hid (fun w' hB => ⟨box_cell (heap_below (hz17.out.box 3 rfl).1 hB) 2, box_cell (heap_below (hz17.out.box 0 rfl).1 hB) 2⟩)
    have hR : Hid (∀ w', Below w13.heap.size w13 w' → RangesIn w' w'.heap.size (.slice a1 rows.length c1) b0 ∧ RangesIn w' w'.heap.size (.slice a3 n3 c3) l1) := Lib.hid (fun w' hB => ⟨(hz17.out.ownC 4 rfl).rd.ranges.on hB, (hz17.out.ownC 2 rfl).rd.ranges.on hB⟩)
    have hrp : Hid (∀ j (hj : j < rps3.length), ∃ g cap, (Value.slice ao3 rps3.length co3) = .slice (some ⟨g, 0, none⟩) rps3.length cap ∧ ∀ w', Below w13.heap.size w13 w' → w'.cell? ⟨g, j * 10, none⟩ = some (.int .i64 rps3[j].kind)) := Lib.hid (fun j hj => by
      obtain ⟨g, cap, hvo, -, hgl, hrc⟩ := (hz17.out.own 1 rfl).cells (j := j) hj
      refine ⟨g, cap, hvo, fun w' hB => (hB.cell (p := ⟨g, j * 10, none⟩) hgl).trans ?_⟩
      have := hrc 0 (by decide)
      exact this)
    obtain ⟨hx0, hx1⟩ := hV.out w13 (Below.refl _ _)
    have hd1 : decide ((n3 : Int) < (rows.length : Int)) = false := decide_eq_false (by omega)
    have hd2 : ¬ (n3 : Int) < (rows.length : Int) := by omega
    go_upto_region 11 with fail
    clear hx0 hx1 hd1 hd2
    go_wp2_with fail
    go_loopw [12] (fun v12 wr => ∃ p : Nat, v12 = .int .i64 (p : Int) ∧ p ≤ rows.length ∧ Hid (Below w13.heap.size w13 wr)) (fun v12 _ => rows.length - (intOf v12).toNat)
    case atStart => exact ⟨0, rfl, Nat.zero_le _, Lib.hid (Below.refl _ _)⟩
    case round =>
      obtain ⟨p, rfl, hp, hb⟩ := hrel
      obtain ⟨hx0, hx1⟩ := hV.out wr hb.out
      have hw2 : IntKind.i64.wrap ((p : Int) + 1) = (p : Int) + 1 := by rw [IntKind.wrap_i64]; omega
      by_cases hlt : p < rows.length
      · have hl1 : (p : Int) < (rows.length : Int) := by omega
        have hd1 : decide ((p : Int) < (rows.length : Int)) = true := decide_eq_true hl1
        have hl2 : (p : Int) < (n3 : Int) := by omega
        have hi0 : (0 : Int) ≤ (p : Int) := by omega
        obtain ⟨hr1, hr2⟩ := hR.out wr hb.out
        have hq1 : p < b0.length := by rw [hbl0.out]; exact hlt
        have hq2 : p < l1.length := by rw [hn3.out]; omega
        have hfx := hff.out p hq1 hq2
        obtain ⟨q1, o1, k1, hv, -, hcells⟩ := rowAt hr1 hq1
        injection hv with e1 e2 e3
        subst e1 e3
        obtain ⟨q2, o2, k2, hv, -, hcells2⟩ := rowAt hr2 hq2
        injection hv with e1 e2 e3
        subst e1 e3
        obtain ⟨z0, -⟩ := hcells p hq1
        obtain ⟨z1, -⟩ := hcells2 p hq2
        rw [hfx] at z1
        generalize (b0[p]).1 = u at z0 z1 hfx
        have hne : ((u : Int) != (u : Int)) = false := by simp
        clear hcells hcells2 hr1 hr2 hfx e2
        go_wp2_with fail
        go_quiet (fail)
        have hbq := Lib.hid (below_drewN hb.out nq)
        go_wp2_with fail
        go_roundw
        case rel => exact ⟨p + 1, by congr 1, by omega, hbq⟩
        case measure => simp [intOf] <;> omega
      · have hl1 : ¬ (p : Int) < (rows.length : Int) := by omega
        have hd1 : decide ((p : Int) < (rows.length : Int)) = false := decide_eq_false hl1
        go_upto_region 16 with fail
        clear hx0 hx1 hd1 hl1 hw2
        go_wp2_with fail
        have hrpl : rps3.length ≤ 100 := hrpl0.out
        go_loopw [13] (fun v13 wq => ∃ p2 : Nat, v13 = .int .i64 (p2 : Int) ∧ p2 ≤ rps3.length ∧ Hid (Below w13.heap.size w13 wq)) (fun v13 _ => rps3.length - (intOf v13).toNat)
        case atStart => exact ⟨0, rfl, Nat.zero_le _, hb⟩
        case round =>
          clear hlt hp hb
          obtain ⟨p2, rfl, hp2, hb⟩ := hrel
          have hw2 : IntKind.i64.wrap ((p2 : Int) + 1) = (p2 : Int) + 1 := by rw [IntKind.wrap_i64]; omega
          by_cases hlt2 : p2 < rps3.length
          · have hl1 : (p2 : Int) < (rps3.length : Int) := by omega
            have hd1 : decide ((p2 : Int) < (rps3.length : Int)) = true := decide_eq_true hl1
            have hi0 : (0 : Int) ≤ (p2 : Int) := by omega
            obtain ⟨g, cap, hv, hc⟩ := hrp.out p2 hlt2
            injection hv with e1 e2 e3
            subst e1 e3
            have hk := hc _ hb.out
            have h9 := hno9.out rps3[p2] (List.getElem_mem hlt2)
            generalize rps3[p2].kind = kd at hk h9
            have hd9 : ((kd : Int) == 9) = false := beq_false_of_ne (by omega)
            clear hc e2
            go_wp2_with fail
            go_roundw
            case rel => exact ⟨p2 + 1, by congr 1, by omega, hb⟩
            case measure => simp [intOf] <;> omega
          · have hl1 : ¬ (p2 : Int) < (rps3.length : Int) := by omega
            have hd1 : decide ((p2 : Int) < (rps3.length : Int)) = false := decide_eq_false hl1
            go_upto_region 21 with fail
            clear hd1 hl1 hw2 hlt2 hp2
            have hz18 := Lib.hid (hz17.out.below hb.out)
            have hs18 := Lib.hid (hs17.out.below hb.out)
            have lt18 := Lib.hid (ltL_below lt17.out hb.out.size)
            obtain ⟨hbM, -⟩ := hz18.out.box 6 rfl
            have hmc : Hid (∀ j v, C2[j]? = some v → wr.cell? ⟨MB, 0 + j, none⟩ = some v) := Lib.hid (fun j v hj => by rw [Nat.zero_add, box_cell hbM j, List.getElem?_toArray]; exact hj)
            obtain ⟨hbQ, -⟩ := hz18.out.box 5 rfl
            have y0 : wr.cell? ⟨QB, 0, none⟩ = some (.string nm2) := box_cell hbQ 0
            have y1 : wr.cell? ⟨QB, 1, none⟩ = some (.int .u64 vl2) := box_cell hbQ 1
            have y2 : wr.cell? ⟨QB, 2, none⟩ = some (.int .u64 nx2) := box_cell hbQ 2
            have y3 : wr.cell? ⟨QB, 3, none⟩ = some (.int .u64 hi2) := box_cell hbQ 3
            have y4 : wr.cell? ⟨QB, 4, none⟩ = some (.slice az2 rows2.length cz2) := box_cell hbQ 4
            have hlt := Lib.hid (laterV_any (L := [WX, VX, QB, MB]) (.agg C2.toArray) (.slice al2 ll.length cl2) nm2 vl2 nx2 hi2 az2 rows2.length cz2 lt18.out hs18.out hr2.out (hs0.out wr hz18.out.bel) (fun q hq => hrq2.out q.1 (List.mem_map.2 ⟨q, hq, rfl⟩)) (by have := hlp2.out.2.2.2.1; rw [List.length_map] at this; omega) hnm.out ⟨_, hf2.out, rfl⟩)
            clear hbM hbQ hz17 hs17 lt17 hV hR hrp hno9
            go_wp2_with (refine wpList_load_cells rfl 27 (.tmp 3) rfl MB 0 C2 rfl Tryz.isAgg27 hsz2.out hmc.out ?_; refine Hid.out ?_)
            refine Lib.hid ?_
            go_wp2_with fail
            refine hlt.out.mono ?_
            rintro e w14 ⟨sv4, z4, rfl, hf4, hs4, hl4, hb14⟩
            obtain ⟨nm4, vl4, nx4, hi4, rows4, az4, cz4⟩ := z4
            unfold bxAgg bxCells BxV.v
            dsimp only
            obtain ⟨t, ht, hev⟩ := later_inbox hr2.out hf2.out (ll.map (·.1))
            have hr4 := later_right hr2.out (ll.map (·.1))
            have hbx4 := box_facts (z := ⟨nm4, vl4, nx4, hi4, rows4, az4, cz4⟩) hr4 hf4.out
            have hev4 : EvoB (BxV.b ⟨nm2, vl2, nx2, hi2, rows2, az2, cz2⟩) (BxV.b ⟨nm4, vl4, nx4, hi4, rows4, az4, cz4⟩) := by
              have h1 := hf4.out
              rw [ht] at h1
              rw [← Option.some.inj h1]
              exact hev
            have hvv : vl4 = vl2 := hev4.val
            have hnn : nm4 = nm2 := hbx4.1.trans hnm.out.symm
            have hrl4 : rows4.length ≤ 32 := hbx4.2.2.1
            have hfl4 := Lib.hid hbx4.2.2.2.1
            obtain ⟨b4, hb4⟩ : ∃ b4, rows4.map ltRow = b4 := ⟨_, rfl⟩
            have hbl4 : Hid (b4.length = rows4.length) := Lib.hid (by rw [← hb4, List.length_map])
            have hsyn : syncL l1 b4 true = b4 := by
              have h1 := view_follows hbp1.out hbp2.out hbx4.2.1 hev2.out hev4
              rw [rowsB_bx, rowsB_bx, rowsB_bx] at h1
              dsimp only at h1
              rw [hb0.out, hb2.out, hb4, hl1e.out] at h1
              exact h1
            replace hsyn := Lib.hid hsyn
            replace hb4 := Lib.hid hb4
            clear t ht hev hr4 hbx4 hev2 hev4 hbp1 hbp2
            subst hvv hnn
            have hz19 := Lib.hid (hz18.out.below hb14.out)
            clear hlt hz18 hs18 lt18 hb14 hs4 hmc y0 y1 y2 y3 y4 hC21 hsz2 hf4
            obtain ⟨hbQ, -⟩ := hz19.out.box 5 rfl
            have y0 := box_cell hbQ 0
            have y1 := box_cell hbQ 1
            have y2 := box_cell hbQ 2
            have y3 := box_cell hbQ 3
            have y4 := box_cell hbQ 4
            simp at y0 y1 y2 y3 y4
            have f0 := box_free hbQ 0
            have f1 := box_free hbQ 1
            have f2 := box_free hbQ 2
            have f3 := box_free hbQ 3
            have f4 := box_free hbQ 4
            have hz20 := Lib.hid (hz19.out.fillBox 5 rfl [.string nm4, .int .u64 vl4, .int .u64 nx4, .int .u64 hi4, .slice az4 rows4.length cz4] rfl)
            have hl20 := Lib.hid (hl4.out.setL (B := QB) (by simp) [.string nm4, .int .u64 vl4, .int .u64 nx4, .int .u64 hi4, .slice az4 rows4.length cz4])
            simp only [World.setCells, Nat.zero_add] at hz20 hl20
            clear hbQ hz19 hl4
            go_upto_region 22 with fail
            clear y0 y1 y2 y3 y4 f0 f1 f2 f3 f4
            generalize ((((w14.setCell ⟨QB, 0, none⟩ _).setCell ⟨QB, 1, none⟩ _).setCell ⟨QB, 2, none⟩ _).setCell ⟨QB, 3, none⟩ _).setCell ⟨QB, 4, none⟩ _ = w15 at hz20 hl20 ⊢
            have hsy := sync_any ⟨nm4, vl4, nx4, hi4, rows4, az4, cz4⟩ l1 (.slice a3 n3 c3) true true w15 (by rw [hn3.out]; omega) (by show rows4.length ≤ 100000; omega) (hz20.out.ownC 2 rfl).rd.ranges hl20.out.now hfl4.out
            dsimp only at hsy
            rw [hb4.out] at hsy
            replace hsy := Lib.hid hsy
            obtain ⟨hbV, -⟩ := hz20.out.box 0 rfl
            have v0 : w15.cell? ⟨WX, 0, none⟩ = some (.string nm4) := box_cell hbV 0
            have v1 : w15.cell? ⟨WX, 1, none⟩ = some (.int .u64 vl4) := box_cell hbV 1
            have v2 : w15.cell? ⟨WX, 2, none⟩ = some (.slice a3 n3 c3) := box_cell hbV 2
            obtain ⟨hbQ, -⟩ := hz20.out.box 5 rfl
            have y0 : w15.cell? ⟨QB, 0, none⟩ = some (.string nm4) := box_cell hbQ 0
            have y1 : w15.cell? ⟨QB, 1, none⟩ = some (.int .u64 vl4) := box_cell hbQ 1
            have y2 : w15.cell? ⟨QB, 2, none⟩ = some (.int .u64 nx4) := box_cell hbQ 2
            have y3 : w15.cell? ⟨QB, 3, none⟩ = some (.int .u64 hi4) := box_cell hbQ 3
            have y4 : w15.cell? ⟨QB, 4, none⟩ = some (.slice az4 rows4.length cz4) := box_cell hbQ 4
            clear hbQ hbV
            go_wp2_with fail
            refine hsy.out.mono ?_
            rintro e w16 ⟨v5, vo5, rps5, rfl, hz21, -⟩
            rw [hsyn.out] at hz21
            obtain ⟨a5, c5, hv5⟩ := (hz21.out.ownC 1 rfl).len
            obtain ⟨ao5, co5, hvo5⟩ := (hz21.out.own 0 rfl).len
            rw [hbl4.out] at hv5
            subst hv5 hvo5
            generalize rps5.length = nr5 at hz21
            have hz22 := hz20.out.join hz21.out
            have hl22 := hl20.out.below hz21.out.bel
            have hz23 := hz22.newBox [.string nm4, .int .u64 vl4, .slice a5 rows4.length c5].toArray 38
            have hl23 := hl22.allocL (.cells [.string nm4, .int .u64 vl4, .slice a5 rows4.length c5].toArray 38)
            generalize hYX : w16.heap.size = YX at hz23 hl23
            replace hz23 := Lib.hid hz23
            replace hl23 := Lib.hid hl23
            clear hsy hz20 hl20 hz21 hz22 hl22 y0 y1 y2 y3 y4 v0 v1 v2
            go_upto_region 23 with fail
            clear hYX
            generalize (w16.alloc (.cells [.string nm4, .int .u64 vl4, .slice a5 rows4.length c5].toArray 38)) = w17 at hz23 hl23 ⊢
            have hV : Hid (∀ w', Below w17.heap.size w17 w' → (w'.cell? ⟨YX, 0, none⟩ = some (.string nm4) ∧ w'.cell? ⟨YX, 1, none⟩ = some (.int .u64 vl4) ∧ w'.cell? ⟨YX, 2, none⟩ = some (.slice a5 rows4.length c5)) ∧ (w'.cell? ⟨QB, 0, none⟩ = some (.string nm4) ∧ w'.cell? ⟨QB, 1, none⟩ = some (.int .u64 vl4) ∧ w'.cell? ⟨QB, 2, none⟩ = some (.int .u64 nx4) ∧ w'.cell? ⟨QB, 3, none⟩ = some (.int .u64 hi4) ∧ w'.cell? ⟨QB, 4, none⟩ = some (.slice az4 rows4.length cz4))) := Lib.hid (fun w' hB => by
              have h1 := heap_below (hz23.out.box 0 rfl).1 hB
              have h2 := heap_below (hz23.out.box 8 rfl).1 hB
              exact ⟨⟨box_cell h1 0, box_cell h1 1, box_cell h1 2⟩, box_cell h2 0, box_cell h2 1, box_cell h2 2, box_cell h2 3, box_cell h2 4⟩)
            have hdr := (Below.refl w17.heap.size w17).drew
            refine wp_region_hd (fun w' => (w'.cell? ⟨YX, 0, none⟩ = some (.string nm4) ∧ w'.cell? ⟨YX, 1, none⟩ = some (.int .u64 vl4) ∧ w'.cell? ⟨YX, 2, none⟩ = some (.slice a5 rows4.length c5)) ∧ (w'.cell? ⟨QB, 0, none⟩ = some (.string nm4) ∧ w'.cell? ⟨QB, 1, none⟩ = some (.int .u64 vl4) ∧ w'.cell? ⟨QB, 2, none⟩ = some (.int .u64 nx4) ∧ w'.cell? ⟨QB, 3, none⟩ = some (.int .u64 hi4) ∧ w'.cell? ⟨QB, 4, none⟩ = some (.slice az4 rows4.length cz4))) 7 1 (by kernel_rfl) rfl ⟨by kernel_rfl, by kernel_rfl, by kernel_rfl, by decide⟩ (hV.out _ hdr) (fun hok hS0 => ?_)
            generalize w17.drew = wd at *
            refine Hd.take (i := 0) (v := ?tv330) hok rfl (by kernel_rfl) (fun _ _ _ h => h) (Or.inl ⟨by rfl, ?ty330⟩) (by assumption) ?tr330
            case ty330 => (intro w hSw; (try dsimp only at hSw); go_simp; (try with_reducible rfl))
            try simp only [List.getElem_toArray, List.getElem_cons_succ, List.getElem_cons_zero, Act.put, List.setIfInBounds_toArray, List.set_cons_zero, List.set_cons_succ]
            refine Hd.take (i := 1) (v := ?tv331) hok rfl (by kernel_rfl) (fun _ _ _ h => h) (Or.inl ⟨by rfl, ?ty331⟩) (by assumption) ?tr331
            case ty331 => (intro w hSw; (try dsimp only at hSw); go_simp; (try with_reducible rfl))
            try simp only [List.getElem_toArray, List.getElem_cons_succ, List.getElem_cons_zero, Act.put, List.setIfInBounds_toArray, List.set_cons_zero, List.set_cons_succ]
            refine Hd.take (i := 2) (v := ?tv332) hok rfl (by kernel_rfl) (fun _ _ _ h => h) (Or.inl ⟨by rfl, ?ty332⟩) (by assumption) ?tr332
            case ty332 => (intro w hSw; (try dsimp only at hSw); go_simp; (try with_reducible rfl))
            try simp only [List.getElem_toArray, List.getElem_cons_succ, List.getElem_cons_zero, Act.put, List.setIfInBounds_toArray, List.set_cons_zero, List.set_cons_succ]
            refine Hd.take (i := 3) (v := ?tv333) hok rfl (by kernel_rfl) (fun _ _ _ h => h) (Or.inl ⟨by rfl, ?ty333⟩) (by assumption) ?tr333
            case ty333 => (intro w hSw; (try dsimp only at hSw); go_simp; (try with_reducible rfl))
            try simp only [List.getElem_toArray, List.getElem_cons_succ, List.getElem_cons_zero, Act.put, List.setIfInBounds_toArray, List.set_cons_zero, List.set_cons_succ]
            refine Hd.one (i := 4) rfl (by kernel_rfl) (fun K hK => ?_)
            go_simp
            have hro := refOpenV_any ⟨nm4, vl4, nx4, hi4, rows4, az4, cz4⟩ wd (by show rows4.length ≤ 100000; omega) (hl23.out.below hdr).now
            dsimp only at hro
            rw [hb4.out] at hro
            refine hro.mono ?_
            rintro e w18 ⟨v6, rfl, hz24⟩
            dsimp only
            have hb18 := hdr.trans (hz24.out.bel.mono hdr.size)
            have hv6 := (hz24.out.ownC 0 rfl).rd.ranges
            have hv7 := (hz23.out.ownC 2 rfl).rd.ranges.on hb18
            refine hK _ _ (hV.out _ hb18) ?_
            clear hK K hro
            try simp only [List.getElem_toArray, List.getElem_cons_succ, List.getElem_cons_zero, Act.put, List.setIfInBounds_toArray, List.set_cons_zero, List.set_cons_succ]
            refine Hd.one (i := 5) rfl (by kernel_rfl) (fun K hK => ?_)
            go_simp
            refine (same22_any nm4 vl4 b4 (.slice a5 rows4.length c5) v6 w18 (by rw [hbl4.out]; omega) hv7 hv6).mono ?_
            rintro e w19 ⟨rfl, hb19⟩
            dsimp only
            have hb20 := hb18.trans (hb19.out.mono hb18.size)
            have hSn := hV.out _ hb20
            refine hK _ _ hSn ?_
            have hbE := Lib.hid (hz23.out.bel.trans (hb20.mono hz23.out.bel.size))
            clear hK K hz24 hv6 hv7 hb18 hb19 hb20 hdr hS0 hV
            try simp only [List.getElem_toArray, List.getElem_cons_succ, List.getElem_cons_zero, Act.put, List.setIfInBounds_toArray, List.set_cons_zero, List.set_cons_succ]
            refine Hd.take (i := 6) (v := ?tv334) hok rfl (by kernel_rfl) (fun _ _ _ h => h) (Or.inl ⟨by rfl, ?ty334⟩) (by assumption) ?tr334
            case ty334 => (intro w hSw; (try dsimp only at hSw); go_simp; (try with_reducible rfl))
            try simp only [List.getElem_toArray, List.getElem_cons_succ, List.getElem_cons_zero, Act.put, List.setIfInBounds_toArray, List.set_cons_zero, List.set_cons_succ]
            refine Hd.done (by kernel_rfl) ?_
            simp only [List.drop_succ_cons, List.drop_zero]
            clear hSn hok
            go_wp2_with fail
            go_ret
            exact ⟨rfl, by first | exact hbE.out | (rw [← hMB]; exact hbE.out)⟩
end Go.Proofs.YtcnebfmlelcliaaGreat
namespace Go.Proofs.YtcnebfmlelcliaaGreat
open Go.RowKit
theorem viewFollows_any (sv lv lv2 : Value) (W : World) (hs : ∃ m : Ml, MlIn W sv m) (hl : ∃ l : List RqP, RqsIn W lv l) (hl2 : ∃ l : List RqP, RqsIn W lv2 l) :
    Calls Tryz.prog 3 #[sv, lv, lv2] W fun e w' => e = .returned (.bool true) ∧ Below W.heap.size W w' := by
  obtain ⟨m, hin⟩ := hs
  obtain ⟨l, hlq⟩ := hl
  obtain ⟨l2, hlq2⟩ := hl2
  exact viewFollows_walk lv lv2 sv m l l2 W hin hlq hlq2
end Go.Proofs.YtcnebfmlelcliaaGreat
