/- Open of the program; a mailbox of some Uids: walked. A mailbox of some Uids, as the law makes it: walked. What lies outside of a view's numbers: walked. Meant of the program: walked. Meant of the program, by numbers: walked. -/
import Derived.Test.YtcnebfmlelcliaaB10
import Derived.Test.YtcnebfmlelcliaaB08
import Derived.Test.YtcnebfmlelcliaaB03
namespace Go.Proofs.Ytcnebfmlelcliaa
set_option linter.unusedSimpArgs false
open Go.RowKit
attribute [local go_sem ↓] Go.wp_at_zero Go.wp_at_succ

/-- a view in new memory -/
def ViewRet (W : World) (s : ByteArray) (val : Nat) (l : List (Nat × Nat)) (e : Ending) (w' : World) : Prop :=
  ∃ vr : Value, e = .returned (.agg #[.string s, .int .u64 val, vr]) ∧ Hid (Zoo W w' [rowT.rowC vr l])
set_option maxRecDepth 100000 in
set_option maxHeartbeats 16000000 in
theorem openV_any (z : BxV) (W : World) (hzl : z.rows.length ≤ 100000) (hb : LtsIn W z.v z.rows) :
    Calls Try.prog 8 #[.agg #[.string z.name, .int .u64 z.validity, .int .u64 z.next, .int .u64 z.high, .slice z.a z.rows.length z.c]] W (ViewRet W z.name z.validity (z.rows.map ltRow)) := by
  obtain ⟨nm, val, nx, hi, rows, a, c⟩ := z
  dsimp only at hzl hb ⊢
  have hb0 := Lib.hid (fun (W' : World) (h : Below W.heap.size W W') => hb.below h)
  have hz1 := (Zoo.nil W).newBox [.string nm, .int .u64 val, .int .u64 nx, .int .u64 hi, .slice a rows.length c].toArray 28
  generalize hBB : W.heap.size = BB at hz1
  generalize hWa : (W.alloc (.cells [.string nm, .int .u64 val, .int .u64 nx, .int .u64 hi, .slice a rows.length c].toArray 28)) = Wa at hz1
  have hz2 := hz1.newBox [.string ⟨#[]⟩, .int .u64 0, .slice none 0 0].toArray 25
  generalize hRB : Wa.heap.size = RB at hz2
  generalize hWb : (Wa.alloc (.cells [.string ⟨#[]⟩, .int .u64 0, .slice none 0 0].toArray 25)) = Wb at hz2
  have hz3 := hz2.newBox [.string nm, .int .u64 val, .slice none 0 0].toArray 25
  generalize hVB : Wb.heap.size = VB at hz3
  replace hz2 := Lib.hid hz2
  replace hz3 := Lib.hid hz3
  clear hb hz1
  go_enter Try.func8, Try.ntmps8
  go_upto_region 1 with fail
  clear hWa hWb
  obtain ⟨hbB, -⟩ := hz2.out.box 1 rfl
  have y0 : Wb.cell? ⟨BB, 0, none⟩ = some (.string nm) := box_cell hbB 0
  have y1 : Wb.cell? ⟨BB, 1, none⟩ = some (.int .u64 val) := box_cell hbB 1
  clear hbB hz2
  go_upto_region 2 with fail
  clear y0 y1
  generalize (Wb.alloc (.cells [.string nm, .int .u64 val, .slice none 0 0].toArray 25)) = Wc at hz3 ⊢
  obtain ⟨hbB, -⟩ := hz3.out.box 2 rfl
  have y4 : Wc.cell? ⟨BB, 4, none⟩ = some (.slice a rows.length c) := box_cell hbB 4
  clear hbB
  have hz4 : Hid (Zoo W Wc [rowT.rowC (.slice none 0 0) ((rows.take 0).map ltRow), boxT VB [.string nm, .int .u64 val, .slice none 0 0].toArray 25, boxT RB [.string ⟨#[]⟩, .int .u64 0, .slice none 0 0].toArray 25, boxT BB [.string nm, .int .u64 val, .int .u64 nx, .int .u64 hi, .slice a rows.length c].toArray 28]) := Lib.hid (hz3.out.newRowC (R := rowT) (Below.refl _ _) (.inl (RT.Own.nil rowT Wc)) (fun g hg => by cases hg))
  clear hz3
  go_upto_region 3 with fail
  clear y4
  go_loopw [14] (fun v14 wr => ∃ (q : Nat) (vr : Value), v14 = .int .i64 q ∧ q ≤ rows.length ∧ Hid (Zoo W wr [rowT.rowC vr ((rows.take q).map ltRow), boxT VB [.string nm, .int .u64 val, vr].toArray 25, boxT RB [.string ⟨#[]⟩, .int .u64 0, .slice none 0 0].toArray 25, boxT BB [.string nm, .int .u64 val, .int .u64 nx, .int .u64 hi, .slice a rows.length c].toArray 28])) (fun v14 _ => rows.length - (intOf v14).toNat)
  case atStart => exact ⟨0, _, rfl, Nat.zero_le _, hz4⟩
  case round =>
    clear hz4
    obtain ⟨q, vr, rfl, hq, hz⟩ := hrel
    by_cases hlt : q < rows.length
    · obtain ⟨b, o, cap', hv, hbB, r0, r1, r2, r3, r4⟩ := (hb0.out wr hz.out.bel).at_ hlt
      injection hv with q1 q2 q3
      subst q1 q3
      have hnx : Hid ((rows.take (q + 1)).map ltRow = (rows.take q).map ltRow ++ [(rows[q].x.uid, rows[q].x.mod)]) := Lib.hid (by rw [List.take_succ_eq_append_getElem hlt, List.map_append]; rfl)
      have hln : Hid (((rows.take q).map ltRow).length + 1 ≤ 1000000) := Lib.hid (by rw [List.length_map, List.length_take]; omega)
      obtain ⟨a3, c3, hv3⟩ := (hz.out.ownC 0 rfl).len
      generalize hcu : (rows.take q).map ltRow = cu at hz hnx hln hv3
      generalize cu.length = n3 at hv3 hln
      subst hv3
      obtain ⟨y, hy⟩ : ∃ y, rows[q] = y := ⟨_, rfl⟩
      rw [hy] at r0 r1 r2 r3 r4 hnx
      have hl1 : (q : Int) < (rows.length : Int) := by omega
      have hq0 : (0 : Int) ≤ (q : Int) := by omega
      obtain ⟨⟨uid, fl, md, hs, sz⟩, ya, yc⟩ := y
      dsimp only at r0 r1 r2 r3 r4 hnx
      generalize fl.length = fn at r1
      have hnb := hz.out.newBox [.int .u64 uid, .slice ya fn yc, .int .u64 md, .string hs, .int .u64 sz].toArray 66
      generalize hLB : wr.heap.size = LB at hnb
      generalize hWd : (wr.alloc (.cells [.int .u64 uid, .slice ya fn yc, .int .u64 md, .string hs, .int .u64 sz].toArray 66)) = wd at hnb
      replace hnb := Lib.hid hnb
      replace hcu := Lib.hid hcu
      clear hz hy hbB
      go_upto_region 5 with fail
      clear hWd r0 r1 r2 r3 r4 hLB
      obtain ⟨hbL, -⟩ := hnb.out.box 0 rfl
      obtain ⟨hbV, -⟩ := hnb.out.box 2 rfl
      have s0 : wd.cell? ⟨LB, 0, none⟩ = some (.int .u64 uid) := box_cell hbL 0
      have s2 : wd.cell? ⟨LB, 2, none⟩ = some (.int .u64 md) := box_cell hbL 2
      have x2 : wd.cell? ⟨VB, 2, none⟩ = some (.slice a3 n3 c3) := box_cell hbV 2
      clear hbL hbV
      have hza := Lib.hid (hnb.out.alloc (.cells (rngCells (uid, md)).toArray 63))
      have hrd := Lib.hid (RT.Own.one rowT wd (uid, md) wd.heap.size rfl).rd
      have hn3 := Lib.hid (show cu.length + [(uid, md)].length ≤ 1000000 from by rw [← hcu.out, List.length_map, List.length_take]; simp; omega)
      clear hnb hln
      go_wp2_with (at_builtin; refine RT.wpList_appendC rowT rfl (.tmp 19) (.tmp 25) rfl (.slice a3 n3 c3) _ cu [(uid, md)] rfl rfl (hza.out.ownC 1 rfl) hrd.out hn3.out ?_)
      intro v6 w6 ho6 hg6 hat6
      rw [← hnx.out] at ho6
      have hz6 := Lib.hid (hza.out.appC 1 rfl ho6 hg6 (fun g hg => (hat6 g hg).imp_right (fun h => by simpa using h)))
      obtain ⟨hbV, -⟩ := hz6.out.box 2 rfl
      have x2 : w6.cell? ⟨VB, 2, none⟩ = some (.slice a3 n3 c3) := box_cell hbV 2
      have f2 : w6.frozen? ⟨VB, 2, none⟩ = false := box_free hbV 2
      have hz7 := Lib.hid ((hz6.out.setBox (C := [_, _, _]) 2 rfl 2 v6).tail)
      obtain ⟨a6, c6, hv6⟩ := ho6.len
      generalize ((rows.take (q + 1)).map ltRow).length = n6 at hv6
      subst hv6
      clear ho6 hg6 hat6 hza hrd hz6 hbV s0 s2 hnx hcu hn3
      go_wp2_with fail
      go_roundw
      case rel => exact ⟨q + 1, _, by go_num, by omega, hz7⟩
      case measure => simp [intOf] <;> omega
    · obtain rfl : q = rows.length := by omega
      rw [List.take_length] at hz
      obtain ⟨a3, c3, hv3⟩ := (hz.out.ownC 0 rfl).len
      generalize (rows.map ltRow).length = n3 at hv3
      subst hv3
      obtain ⟨hbV, -⟩ := hz.out.box 1 rfl
      have x0 : wr.cell? ⟨VB, 0, none⟩ = some (.string nm) := box_cell hbV 0
      have x1 : wr.cell? ⟨VB, 1, none⟩ = some (.int .u64 val) := box_cell hbV 1
      have x2 : wr.cell? ⟨VB, 2, none⟩ = some (.slice a3 n3 c3) := box_cell hbV 2
      obtain ⟨hbR, -⟩ := hz.out.box 2 rfl
      have z0 : wr.cell? ⟨RB, 0, none⟩ = some (.string ⟨#[]⟩) := box_cell hbR 0
      have z1 : wr.cell? ⟨RB, 1, none⟩ = some (.int .u64 0) := box_cell hbR 1
      have z2 : wr.cell? ⟨RB, 2, none⟩ = some (.slice none 0 0) := box_cell hbR 2
      have f0 := box_free hbR 0
      have f1 := box_free hbR 1
      have f2 := box_free hbR 2
      have hzF := Lib.hid (((hz.out.setBox (C := [_, _, _]) 2 rfl 0 (.string nm)).setBox (C := [_, _, _]) 2 rfl 1 (.int .u64 val)).setBox (C := [_, _, _]) 2 rfl 2 (.slice a3 n3 c3))
      obtain ⟨hbF, -⟩ := hzF.out.box 2 rfl
      replace hbF := Lib.hid hbF
      clear hbV hbR hz
      go_wp2_with fail
      refine bodyPost_ret (results_cell_row rfl _ _ _ 25 _ (0, 0) _ rfl hbF.out Try.underlying25 rfl rfl) rfl ?_
      exact ⟨.slice a3 n3 c3, rfl, Lib.hid (hzF.out.sub (List.Sublist.cons_cons _ (List.nil_sublist _)))⟩
end Go.Proofs.Ytcnebfmlelcliaa
namespace Go.Proofs.Ytcnebfmlelcliaa
set_option linter.unusedSimpArgs false
open Go.RowKit
attribute [local go_sem ↓] Go.wp_at_zero Go.wp_at_succ

/-- letters of these Uids, with nothing else -/
def bareL (us : List Nat) : List LtV := us.map fun u => ⟨⟨u, [], 1, ⟨#[]⟩, 0⟩, none, 0⟩
def bareS : ByteArray := ⟨#[97]⟩
theorem bareL_in {W : World} {v : Value} {us : List Nat} (h : ltT.Own W v (bareL us)) : LtsIn W v (bareL us) := ⟨h.rd, fun y hy => by
  obtain ⟨u, -, rfl⟩ := List.mem_map.1 hy
  exact ⟨_, _, rfl, .inl rfl⟩⟩
def BoxRet (W : World) (us : List Nat) (e : Ending) (w' : World) : Prop :=
  ∃ (a : Option Addr) (c : Nat), e = .returned (.agg #[.string bareS, .int .u64 2, .int .u64 9, .int .u64 9, .slice a (bareL us).length c]) ∧ Hid (Zoo W w' [ltT.row (.slice a (bareL us).length c) (bareL us)])
set_option maxRecDepth 100000 in
set_option maxHeartbeats 16000000 in
theorem box_any_vw (us : List Nat) (v : Value) (W : World) (hl : us.length ≤ 1000) (hv : Rd W v us.length (us.map encU)) :
    Calls Try.prog 22 #[v] W (BoxRet W us) := by
  have hv0 := Lib.hid (fun (W' : World) (h : Below W.heap.size W W') => hv.below h)
  obtain ⟨au, cu, rfl, -⟩ := hv
  have hz1 := (Zoo.nil W).newBox [.string ⟨#[]⟩, .int .u64 0, .int .u64 0, .int .u64 0, .slice none 0 0].toArray 28
  generalize hRB : W.heap.size = RB at hz1
  generalize hWa : (W.alloc (.cells [.string ⟨#[]⟩, .int .u64 0, .int .u64 0, .int .u64 0, .slice none 0 0].toArray 28)) = Wa at hz1
  have hz2 := hz1.newBox [.string bareS, .int .u64 2, .int .u64 9, .int .u64 9, .slice none 0 0].toArray 28
  unfold bareS at hz2
  generalize hBB : Wa.heap.size = BB at hz2
  replace hz2 := Lib.hid hz2
  clear hz1
  go_enter Try.func22, Try.ntmps22
  go_upto_region 1 with fail
  clear hWa
  go_upto_region 2 with fail
  generalize (Wa.alloc (.cells [.string ⟨#[97]⟩, .int .u64 2, .int .u64 9, .int .u64 9, .slice none 0 0].toArray 28)) = Wc at hz2 ⊢
  have hz4 : Hid (Zoo W Wc [ltT.row (.slice none 0 0) (bareL (us.take 0)), boxT BB [.string ⟨#[97]⟩, .int .u64 2, .int .u64 9, .int .u64 9, .slice none 0 0].toArray 28, boxT RB [.string ⟨#[]⟩, .int .u64 0, .int .u64 0, .int .u64 0, .slice none 0 0].toArray 28]) := Lib.hid (hz2.out.newRow (R := ltT) (Below.refl _ _) (RT.Own.nil ltT Wc) (fun g hg => by cases hg))
  clear hz2
  go_wp2_with fail
  go_loopw [4] (fun v4 wr => ∃ (q : Nat) (vr : Value), v4 = .int .i64 q ∧ q ≤ us.length ∧ Hid (Zoo W wr [ltT.row vr (bareL (us.take q)), boxT BB [.string ⟨#[97]⟩, .int .u64 2, .int .u64 9, .int .u64 9, vr].toArray 28, boxT RB [.string ⟨#[]⟩, .int .u64 0, .int .u64 0, .int .u64 0, .slice none 0 0].toArray 28])) (fun v4 _ => us.length - (intOf v4).toNat)
  case atStart => exact ⟨0, _, rfl, Nat.zero_le _, hz4⟩
  case round =>
    clear hz4
    obtain ⟨q, vr, rfl, hq, hz⟩ := hrel
    by_cases hlt : q < us.length
    · obtain ⟨b, o, hao, hbB, hcs⟩ := (hv0.out W (Below.refl _ _)).at_pos (by omega)
      subst hao
      have hnx : Hid (bareL (us.take (q + 1)) = bareL (us.take q) ++ [⟨⟨us[q], [], 1, ⟨#[]⟩, 0⟩, none, 0⟩]) := Lib.hid (by rw [List.take_succ_eq_append_getElem hlt]; exact List.map_append)
      have hu : ∀ W', Below W.heap.size W W' → W'.cell? ⟨b, o + q, none⟩ = some (.int .u64 (us[q] : Nat)) := fun W' hB => (hB.cell (p := ⟨b, o + q, none⟩) hbB).trans (hcs q _ (by rw [List.getElem?_map, List.getElem?_eq_getElem hlt]; rfl))
      have hln : Hid ((bareL (us.take q)).length + 1 ≤ 1000000) := Lib.hid (by unfold bareL; rw [List.length_map, List.length_take]; omega)
      obtain ⟨a3, c3, hv3⟩ := (hz.out.own 0 rfl).len
      generalize hcu : bareL (us.take q) = cu at hz hnx hln hv3
      obtain ⟨n3, hn3⟩ : ∃ n3, cu.length = n3 := ⟨_, rfl⟩
      rw [hn3] at hv3
      replace hn3 := Lib.hid hn3
      subst hv3
      obtain ⟨x, hx⟩ : ∃ x, us[q] = x := ⟨_, rfl⟩
      rw [hx] at hu hnx
      have hl1 : (q : Int) < (us.length : Int) := by omega
      have hq0 : (0 : Int) ≤ (q : Int) := by omega
      replace hcu := Lib.hid hcu
      clear hbB hcs hx
      go_upto_region 5 with fail
      have hzd := hz.out.drew
      obtain ⟨hbV, -⟩ := hzd.box 1 rfl
      have x4 : wr.drew.cell? ⟨BB, 4, none⟩ = some (.slice a3 n3 c3) := box_cell hbV 4
      have u0 := hu _ hzd.bel
      refine wp_region_hd (fun w' => w'.cell? ⟨BB, 4, none⟩ = some (.slice a3 n3 c3) ∧ w'.cell? ⟨b, o + q, none⟩ = some (.int .u64 x)) 9 2 (by kernel_rfl) rfl ⟨by kernel_rfl, by kernel_rfl, by kernel_rfl, by decide⟩ ⟨x4, u0⟩ (fun hok hS0 => ?_)
      generalize wr.drew = wd at *
      refine Hd.take (i := 0) (v := ?tv34) hok rfl (by kernel_rfl) (fun _ _ _ h => h) (Or.inl ⟨by rfl, ?ty34⟩) (by assumption) ?tr34
      case ty34 => (intro w hSw; (try dsimp only at hSw); go_simp; (try with_reducible rfl))
      try simp only [List.getElem_toArray, List.getElem_cons_succ, List.getElem_cons_zero, Act.put, List.setIfInBounds_toArray, List.set_cons_zero, List.set_cons_succ]
      refine Hd.take (i := 1) (v := ?tv35) hok rfl (by kernel_rfl) (fun _ _ _ h => h) (Or.inl ⟨by rfl, ?ty35⟩) (by assumption) ?tr35
      case ty35 => (intro w hSw; (try dsimp only at hSw); go_simp; (try with_reducible rfl))
      try simp only [List.getElem_toArray, List.getElem_cons_succ, List.getElem_cons_zero, Act.put, List.setIfInBounds_toArray, List.set_cons_zero, List.set_cons_succ]
      refine Hd.take (i := 2) (v := ?tv36) hok rfl (by kernel_rfl) (fun _ _ _ h => h) (Or.inl ⟨by rfl, ?ty36⟩) (by assumption) ?tr36
      case ty36 => (intro w hSw; (try dsimp only at hSw); go_simp; (try with_reducible rfl))
      try simp only [List.getElem_toArray, List.getElem_cons_succ, List.getElem_cons_zero, Act.put, List.setIfInBounds_toArray, List.set_cons_zero, List.set_cons_succ]
      refine Hd.take (i := 3) (v := ?tv37) hok rfl (by kernel_rfl) (fun _ _ _ h => h) (Or.inl ⟨by rfl, ?ty37⟩) (by assumption) ?tr37
      case ty37 => (intro w hSw; (try dsimp only at hSw); go_simp; (try with_reducible rfl))
      try simp only [List.getElem_toArray, List.getElem_cons_succ, List.getElem_cons_zero, Act.put, List.setIfInBounds_toArray, List.set_cons_zero, List.set_cons_succ]
      refine Hd.take (i := 4) (v := ?tv38) hok rfl (by kernel_rfl) (fun _ _ _ h => h) (Or.inl ⟨by rfl, ?ty38⟩) (by assumption) ?tr38
      case ty38 => (intro w hSw; (try dsimp only at hSw); go_simp; (try with_reducible rfl))
      try simp only [List.getElem_toArray, List.getElem_cons_succ, List.getElem_cons_zero, Act.put, List.setIfInBounds_toArray, List.set_cons_zero, List.set_cons_succ]
      refine Hd.take (i := 5) (v := ?tv39) hok rfl (by kernel_rfl) (fun _ _ _ h => h) (Or.inl ⟨by rfl, ?ty39⟩) (by assumption) ?tr39
      case ty39 => (intro w hSw; (try dsimp only at hSw); go_simp; (try with_reducible rfl))
      try simp only [List.getElem_toArray, List.getElem_cons_succ, List.getElem_cons_zero, Act.put, List.setIfInBounds_toArray, List.set_cons_zero, List.set_cons_succ]
      refine Hd.take (i := 6) (v := ?tv40) hok rfl (by kernel_rfl) (fun _ _ _ h => h) (Or.inl ⟨by rfl, ?ty40⟩) (by assumption) ?tr40
      case ty40 => (intro w hSw; (try dsimp only at hSw); go_simp; (try with_reducible rfl))
      try simp only [List.getElem_toArray, List.getElem_cons_succ, List.getElem_cons_zero, Act.put, List.setIfInBounds_toArray, List.set_cons_zero, List.set_cons_succ]
      refine Hd.one (i := 7) rfl (by kernel_rfl) (fun K hK => ?_)
      go_simp
      have hza := hzd.alloc (.cells (ltCells ⟨⟨x, [], 1, ⟨#[]⟩, 0⟩, none, 0⟩).toArray 66)
      have hrd := (RT.Own.one ltT wd ⟨⟨x, [], 1, ⟨#[]⟩, 0⟩, none, 0⟩ wd.heap.size rfl).rd
      obtain ⟨hbV2, -⟩ := hza.box 1 rfl
      refine hK _ _ ⟨box_cell hbV2 4, hu _ hza.bel⟩ ?_
      clear hK K
      try simp only [List.getElem_toArray, List.getElem_cons_succ, List.getElem_cons_zero, Act.put, List.setIfInBounds_toArray, List.set_cons_zero, List.set_cons_succ]
      refine Hd.one (i := 8) rfl (by kernel_rfl) (fun K hK => ?_)
      refine RT.step_append ltT rfl (.tmp 13) (.tmp 19) rfl (.slice a3 n3 c3) _ cu [⟨⟨x, [], 1, ⟨#[]⟩, 0⟩, none, 0⟩] rfl rfl (hza.own 0 rfl) hrd (by simpa using hln.out) ?_
      intro v6 w6 ho6 hg6 hat6
      rw [← hnx.out] at ho6
      have hz6 := hza.appR 0 rfl ho6 hg6 (fun g hg => (hat6 g hg).imp_right (fun h => by simpa using h))
      obtain ⟨hbV6, -⟩ := hz6.box 1 rfl
      have x4' : w6.cell? ⟨BB, 4, none⟩ = some (.slice a3 n3 c3) := box_cell hbV6 4
      have f4 : w6.frozen? ⟨BB, 4, none⟩ = false := box_free hbV6 4
      refine hK _ _ ⟨x4', hu _ hz6.bel⟩ ?_
      clear hK K
      try simp only [List.getElem_toArray, List.getElem_cons_succ, List.getElem_cons_zero, Act.put, List.setIfInBounds_toArray, List.set_cons_zero, List.set_cons_succ]
      refine Hd.done (by kernel_rfl) ?_
      simp only [List.drop_succ_cons, List.drop_zero]
      have hz7 := Lib.hid (hz6.setBox (C := [_, _, _, _, _]) 1 rfl 4 v6)
      obtain ⟨a6, c6, hv6⟩ := ho6.len
      generalize (bareL (us.take (q + 1))).length = n6 at hv6
      subst hv6
      clear ho6 hg6 hat6 hza hrd hz6 hbV hbV2 hbV6 hok hS0 u0 x4 hzd hnx hcu hln hu hz hn3
      go_wp2_with fail
      go_roundw
      case rel => exact ⟨q + 1, _, by go_num, by omega, hz7⟩
      case measure => simp [intOf] <;> omega
    · obtain rfl : q = us.length := by omega
      rw [List.take_length] at hz
      obtain ⟨a3, c3, hv3⟩ := (hz.out.own 0 rfl).len
      have hres : Hid (ltT.Own wr (.slice a3 (bareL us).length c3) (bareL us)) := Lib.hid (by rw [← hv3]; exact hz.out.own 0 rfl)
      subst hv3
      obtain ⟨n3, hn3⟩ : ∃ n3, (bareL us).length = n3 := ⟨_, rfl⟩
      rw [hn3] at hz
      replace hn3 := Lib.hid hn3
      obtain ⟨hbV, -⟩ := hz.out.box 1 rfl
      have x0 : wr.cell? ⟨BB, 0, none⟩ = some (.string ⟨#[97]⟩) := box_cell hbV 0
      have x1 : wr.cell? ⟨BB, 1, none⟩ = some (.int .u64 2) := box_cell hbV 1
      have x2 : wr.cell? ⟨BB, 2, none⟩ = some (.int .u64 9) := box_cell hbV 2
      have x3 : wr.cell? ⟨BB, 3, none⟩ = some (.int .u64 9) := box_cell hbV 3
      have x4 : wr.cell? ⟨BB, 4, none⟩ = some (.slice a3 n3 c3) := box_cell hbV 4
      obtain ⟨hbR, -⟩ := hz.out.box 2 rfl
      have z0 : wr.cell? ⟨RB, 0, none⟩ = some (.string ⟨#[]⟩) := box_cell hbR 0
      have z1 : wr.cell? ⟨RB, 1, none⟩ = some (.int .u64 0) := box_cell hbR 1
      have z2 : wr.cell? ⟨RB, 2, none⟩ = some (.int .u64 0) := box_cell hbR 2
      have z3 : wr.cell? ⟨RB, 3, none⟩ = some (.int .u64 0) := box_cell hbR 3
      have z4 : wr.cell? ⟨RB, 4, none⟩ = some (.slice none 0 0) := box_cell hbR 4
      have f0 := box_free hbR 0
      have f1 := box_free hbR 1
      have f2 := box_free hbR 2
      have f3 := box_free hbR 3
      have f4 := box_free hbR 4
      have hzF := Lib.hid (hz.out.fillBox (C := [.string ⟨#[]⟩, .int .u64 0, .int .u64 0, .int .u64 0, .slice none 0 0]) 2 rfl [.string ⟨#[97]⟩, .int .u64 2, .int .u64 9, .int .u64 9, .slice a3 n3 c3] rfl)
      simp only [World.setCells, Nat.zero_add] at hzF
      obtain ⟨hbF, -⟩ := hzF.out.box 2 rfl
      replace hbF := Lib.hid hbF
      clear hbV hbR hz hres
      go_wp2_with fail
      refine bodyPost_ret (results_cell_row rfl _ _ _ 28 _ (0, 0) _ rfl hbF.out Try.underlying28 rfl rfl) rfl ?_
      refine ⟨a3, c3, by rw [hn3.out]; rfl, Lib.hid ?_⟩
      rw [hn3.out]
      exact hzF.out.sub (List.Sublist.cons_cons _ (List.nil_sublist _))
end Go.Proofs.Ytcnebfmlelcliaa
namespace Go.Proofs.Ytcnebfmlelcliaa
open Go.RowKit

def outOne (n : Nat) (r : Rng) : Bool := decide (min (realI n r.1) (realI n r.2) < 1) || decide ((n : Int) < max (realI n r.1) (realI n r.2))
def outL (rs : List Rng) (n : Nat) : Bool := rs.any (outOne n)
structure OutMem (W : World) (N C : Nat) (n : Nat) : Prop where
  bn : Boxed W N 22 (.int .u64 n)
  bc : Boxed W C 68 (.func (.func 27) #[] #[.pointer (some ⟨N, 0, none⟩)])
theorem OutMem.later {W W' : World} {N C n : Nat} (h : OutMem W N C n) (hb : Below W.heap.size W W') : OutMem W' N C n := ⟨boxed_below h.bn hb, boxed_below h.bc hb⟩
set_option maxHeartbeats 1000000 in
theorem mreal_any (k : Int) (N n : Nat) (w : World) (hN : Boxed w N 22 (.int .u64 n)) :
    Calls Try.prog 27 #[.int .u64 k, .pointer (some ⟨N, 0, none⟩)] w fun e w' => e = .returned (.int .u64 (realI n k)) ∧ w' = w := by
  have cN := hN.cell
  by_cases h : k = 0
  · have hr : realI n k = n := if_pos h
    rw [hr]
    have h0 : (k == 0) = true := by rw [h]; rfl
    clear hr hN
    go_enter Try.func27, Try.ntmps27
    go_wp2_with fail
    go_ret
    exact ⟨rfl, rfl⟩
  · have hr : realI n k = k := if_neg h
    rw [hr]
    have h0 : (k == 0) = false := beq_eq_false_iff_ne.2 h
    clear hr hN cN
    go_enter Try.func27, Try.ntmps27
    go_wp2_with fail
    go_ret
    exact ⟨rfl, rfl⟩
set_option maxRecDepth 100000 in
set_option maxHeartbeats 2000000 in
theorem outOne_any (r : Rng) (N C n : Nat) (w : World) (hM : OutMem w N C n) :
    Calls Try.prog 28 #[.agg #[.int .u64 r.1, .int .u64 r.2], .pointer (some ⟨C, 0, none⟩), .pointer (some ⟨N, 0, none⟩)] w fun e w' => e = .returned (.bool (outOne n r)) ∧ Hid (Below w.heap.size w w') := by
  obtain ⟨f, t⟩ := r
  dsimp only
  have hb := (Below.refl _ w).alloc (Nat.le_refl _) (.cells #[.int .u64 f, .int .u64 t] 57)
  have hM1 := hM.later hb
  have hf := Lib.hid (fun m => mreal_any f N n ((w.alloc (.cells #[.int .u64 f, .int .u64 t] 57)).drewN m) hM1.bn)
  have ht := Lib.hid (fun m => mreal_any t N n ((w.alloc (.cells #[.int .u64 f, .int .u64 t] 57)).drewN m) hM1.bn)
  have cN := hM1.bn.cell
  have cC := hM1.bc.cell
  have hv : Hid (outOne n (f, t) = (decide (min (realI n f) (realI n t) < 1) || decide ((n : Int) < max (realI n f) (realI n t)))) := Lib.hid rfl
  replace hb := Lib.hid hb
  clear hM hM1
  generalize realI n f = a at hf hv
  generalize realI n t = b at ht hv
  by_cases h1 : min a b < 1
  · have d1 : decide (min a b < 1) = true := decide_eq_true h1
    rw [d1, Bool.true_or] at hv
    clear h1
    go_enter Try.func28, Try.ntmps28
    go_wp2_with fail
    go_quiet ((go_at_call 27; first | exact Calls.quiet_of_same (hf.out _) | exact Calls.quiet_of_same (ht.out _)))
    go_wp2_with fail
    go_ret
    exact ⟨by rw [hv.out]; rfl, Lib.hid (below_drewN hb.out _)⟩
  · have d1 : decide (min a b < 1) = false := decide_eq_false h1
    rw [d1, Bool.false_or] at hv
    clear h1
    go_enter Try.func28, Try.ntmps28
    go_wp2_with fail
    go_quiet ((go_at_call 27; first | exact Calls.quiet_of_same (hf.out _) | exact Calls.quiet_of_same (ht.out _)))
    go_wp2_with fail
    go_ret
    exact ⟨by rw [hv.out]; rfl, Lib.hid (below_drewN hb.out _)⟩
set_option maxRecDepth 100000 in
set_option maxHeartbeats 2000000 in
theorem outIdx_any (rs : List (Nat × Nat)) (v : Value) (N C n : Nat) (w : World) (hl : rs.length ≤ 9223372036854775807) (hM : OutMem w N C n) (hk : RangesIn w w.heap.size v rs) :
    Calls Try.prog 44 #[v, .func (.func 28) #[] #[.pointer (some ⟨C, 0, none⟩), .pointer (some ⟨N, 0, none⟩)]] w fun e w' => ∃ r : Int, e = .returned (.int .i64 r) ∧ Hid (decide (0 ≤ r) = outL rs n) ∧ Hid (Below w.heap.size w w') := by
  have hk0 := Lib.hid hk
  have hwa := Lib.hid outOne_any
  obtain ⟨ao, cap, rfl, _⟩ := hk
  replace hM := Lib.hid hM
  go_enter Try.func44, Try.ntmps44
  go_wp2_with fail
  go_loopw [8] (fun v8 wr => ∃ q : Nat, v8 = .int .i64 q ∧ q ≤ rs.length ∧ Hid ((rs.take q).any (outOne n) = false) ∧ Hid (Below w.heap.size w wr)) (fun v8 _ => rs.length - (intOf v8).toNat)
  case atStart => exact ⟨0, rfl, Nat.zero_le _, Lib.hid rfl, Lib.hid (Below.refl _ _)⟩
  case round =>
    obtain ⟨q, rfl, hq, hno, hb⟩ := hrel
    by_cases hlt : q < rs.length
    · obtain ⟨ao', cap', hv, hk | ⟨b, o, hao, hbB, hcap, hcells⟩⟩ := hk0.out.later hb.out
      · rw [hk] at hlt; simp at hlt
      · cases hv
        subst hao
        have hc := hcells q hlt
        have hstep : (rs.take (q + 1)).any (outOne n) = outOne n rs[q] := by rw [List.take_succ_eq_append_getElem hlt, List.any_append, hno.out]; simp
        have hyes : outOne n rs[q] = true → rs.any (outOne n) = true := fun h => List.any_eq_true.2 ⟨_, List.getElem_mem hlt, h⟩
        have hcall := Lib.hid (hwa.out rs[q] N C n wr (hM.out.later hb.out))
        generalize rs[q] = k at hc hstep hyes hcall
        obtain ⟨c0, c1⟩ := hc
        clear hcells
        cases hB : outOne n k
        · rw [hB] at hcall hstep
          replace hstep := Lib.hid hstep
          replace hyes := Lib.hid hyes
          replace hB := Lib.hid hB
          go_wp2_with fail
          refine hcall.out.mono ?_
          rintro e w3 ⟨rfl, hb3⟩
          have hb4 := Lib.hid (hb.out.trans (hb3.out.mono hb.out.size))
          clear hcall hb3 c0 c1
          go_wp2_with fail
          go_roundw
          case rel => exact ⟨q + 1, by go_num, by omega, hstep, hb4⟩
          case measure => simp [intOf] <;> omega
        · rw [hB] at hcall
          have hyy := Lib.hid (hyes hB)
          replace hB := Lib.hid hB
          clear hstep hyes
          go_wp2_with fail
          refine hcall.out.mono ?_
          rintro e w3 ⟨rfl, hb3⟩
          have hb4 := Lib.hid (hb.out.trans (hb3.out.mono hb.out.size))
          clear hcall hb3 c0 c1
          go_wp2_with fail
          go_ret
          exact ⟨q, rfl, Lib.hid (by rw [outL, hyy.out]; exact decide_eq_true (by omega)), hb4⟩
    · obtain rfl : q = rs.length := by omega
      rw [List.take_length] at hno
      go_wp2_with fail
      go_ret
      exact ⟨-1, rfl, Lib.hid (by rw [outL, hno.out]; rfl), hb⟩
set_option maxHeartbeats 2000000 in
theorem outAny_any (rs : List (Nat × Nat)) (v : Value) (N C n : Nat) (w : World) (hl : rs.length ≤ 9223372036854775807) (hM : OutMem w N C n) (hk : RangesIn w w.heap.size v rs) :
    Calls Try.prog 29 #[v, .func (.func 28) #[] #[.pointer (some ⟨C, 0, none⟩), .pointer (some ⟨N, 0, none⟩)]] w fun e w' => e = .returned (.bool (outL rs n)) ∧ Hid (Below w.heap.size w w') := by
  have hi := Lib.hid (outIdx_any rs v N C n w hl hM hk)
  obtain ⟨ao, cap, rfl, _⟩ := hk
  clear hM
  go_enter Try.func29, Try.ntmps29
  go_wp2_with fail
  refine hi.out.mono ?_
  rintro e w1 ⟨r, rfl, hr, hb⟩
  go_wp2_with fail
  go_ret
  exact ⟨by rw [← hr.out]; rfl, hb⟩
end Go.Proofs.Ytcnebfmlelcliaa
namespace Go.Proofs.Ytcnebfmlelcliaa
open Go.RowKit

def meantN (rs l : List Rng) (byUid : Bool) : Nat → List Nat
  | 0 => []
  | k + 1 => if (if byUid then hasL rs (mostL l) (l.getD k (0, 0)).1 else hasL rs l.length (k + 1)) then meantN rs l byUid k ++ [(l.getD k (0, 0)).1] else meantN rs l byUid k
theorem meantN_len (rs l : List Rng) (byUid : Bool) : ∀ k, (meantN rs l byUid k).length ≤ k
  | 0 => Nat.le_refl _
  | k + 1 => by
    have := meantN_len rs l byUid k
    unfold meantN
    generalize (if byUid = true then hasL rs (mostL l) (l.getD k (0, 0)).1 else hasL rs l.length (k + 1)) = b
    cases b
    · simp; omega
    · simp; omega
theorem meantN_yes {rs l : List Rng} {byUid : Bool} {k : Nat} (hk : k < l.length) (h : (if byUid then hasL rs (mostL l) l[k].1 else hasL rs l.length (k + 1)) = true) : meantN rs l byUid (k + 1) = meantN rs l byUid k ++ [l[k].1] := by
  have e : l.getD k (0, 0) = l[k] := by simp [List.getD, hk]
  conv => lhs; unfold meantN
  rw [e, if_pos h]
theorem meantN_no {rs l : List Rng} {byUid : Bool} {k : Nat} (hk : k < l.length) (h : (if byUid then hasL rs (mostL l) l[k].1 else hasL rs l.length (k + 1)) = false) : meantN rs l byUid (k + 1) = meantN rs l byUid k := by
  have e : l.getD k (0, 0) = l[k] := by simp [List.getD, hk]
  conv => lhs; unfold meantN
  rw [e, h]; rfl
theorem OwnN.low {w : World} {B B' : Nat} {v : Value} {l : List Nat} (h : OwnN w B v l) (hB : B' ≤ B) : OwnN w B' v l := by
  refine ⟨h.1, ?_⟩
  rcases h.2 with h2 | ⟨g, cap, cur, hv, hb, r⟩
  · exact .inl h2
  · exact .inr ⟨g, cap, cur, hv, Nat.le_trans hB hb, r⟩
def VMeantRet (rs l : List Rng) (byUid : Bool) (w : World) (e : Ending) (w' : World) : Prop := ∃ v', e = .returned (.tuple #[v', .bool (!(!byUid && outL rs l.length))]) ∧ Hid (OwnN w' w.heap.size v' (if (!byUid && outL rs l.length) = true then [] else meantN rs l byUid l.length)) ∧ Hid (Below w.heap.size w w')
set_option maxRecDepth 100000 in
set_option maxHeartbeats 4000000 in
theorem meantUid_any (s : ByteArray) (val : Nat) (rs l : List Rng) (v vl : Value) (w : World) (hl : l.length ≤ 1000000) (hl2 : rs.length ≤ 1000000) (hk : RangesIn w w.heap.size v l) (hr : RangesIn w w.heap.size vl rs) :
    Calls Try.prog 14 #[.agg #[.string s, .int .u64 val, v], vl, .bool true] w (VMeantRet rs l true w) := by
  have hk0 := Lib.hid hk
  have hr0 := Lib.hid hr
  have hgr := Lib.hid (fun W (hW : Below w.heap.size w W) => greatest_any s val l v W hl (hk.on hW))
  have hhas := Lib.hid (fun W n (hW : Below w.heap.size w W) => seqHas_any rs vl (mostL l) n W (by omega) (hr.on hW))
  obtain ⟨ao, cap, rfl, _⟩ := hk
  have hw : IntKind.u64.wrap (l.length : Int) = (l.length : Int) := by rw [IntKind.wrap_u64]; omega
  go_enter Try.func14, Try.ntmps14
  go_wp2_with fail
  have bw := ((((Below.refl w.heap.size w).alloc (Nat.le_refl _) (.cells #[.string s, .int .u64 val, .slice ao l.length cap] 25)).alloc (by simp) (.cells #[.int .u64 l.length] 22)).alloc (by simp; omega) (.cells #[.func (.func 27) #[] #[.pointer (some ⟨w.heap.size + 1, 0, none⟩)]] 68))
  refine (hgr.out _ bw).mono ?_
  rintro e w1 ⟨rfl, hb1⟩
  have hB1 := Lib.hid (bw.trans (hb1.out.mono bw.size))
  have t1 := heap_below (heap_below (two_new w _ _).1 ((Below.refl _ _).alloc (Nat.le_refl _) _)) hb1.out
  have c2 := cell_at t1 2
  simp at c2
  have L1 := (Array.getElem?_eq_some_iff.1 t1).1
  clear t1 hb1 bw hgr
  go_wp2_with fail
  go_loopw [12, 33] (fun v12 v33 wr => ∃ q : Nat, v33 = .int .i64 q ∧ q ≤ l.length ∧ Hid (OwnN wr w1.heap.size v12 (meantN rs l true q)) ∧ Hid (Below w1.heap.size w1 wr)) (fun _ v33 _ => l.length - (intOf v33).toNat)
  case atStart => exact ⟨0, rfl, Nat.zero_le _, Lib.hid (OwnN.nil _ _), Lib.hid (Below.refl _ _)⟩
  case round =>
    obtain ⟨q, rfl, hq, hown, hb⟩ := hrel
    have hB := Lib.hid (hB1.out.trans (hb.out.mono hB1.out.size))
    by_cases hlt : q < l.length
    · obtain ⟨b, o, cap', hv, hbB, hcells⟩ := rowAt (hk0.out.later hB.out) hlt
      injection hv with q1 q2 q3
      subst q1 q3
      obtain ⟨r0, r1⟩ := hcells q hlt
      have hl1 : (q : Int) < (l.length : Int) := by omega
      have hyes := meantN_yes (rs := rs) (byUid := true) hlt
      have hno := meantN_no (rs := rs) (byUid := true) hlt
      have hln := meantN_len rs l true q
      generalize meantN rs l true q = out at hown hyes hno hln
      generalize l[q] = k at r0 r1 hyes hno
      obtain ⟨f, t⟩ := k
      dsimp only at r0 r1 hyes hno
      rw [if_pos rfl] at hyes hno
      clear hcells
      have hcall := hhas.out _ f (hB.out.alloc hB.out.size (.cells #[.int .u64 f, .int .u64 t] 63))
      have n0 := cells_new wr #[.int .u64 f, .int .u64 t] 63
      have n1 := cell_at n0 0
      simp at n1
      generalize hasL rs (mostL l) f = Z at hcall hyes hno
      cases Z
      · replace hno := Lib.hid (hno rfl)
        replace hcall := Lib.hid hcall
        clear hyes n0
        go_wp2_with fail
        refine hcall.out.mono ?_
        rintro e w3 ⟨rfl, hb3⟩
        have hb4 := Lib.hid (((Below.refl w1.heap.size w1).trans hb.out).trans (((Below.refl w1.heap.size wr).alloc hb.out.size _).trans (hb3.mono (by have := hb.out.size; simp; omega))))
        have hown4 : Hid (OwnN w3 w1.heap.size u12 (meantN rs l true (q + 1))) := Lib.hid (by rw [hno.out]; exact (hown.out.alloc _).below hb3)
        clear hcall hb3 n1 r0 r1 hown
        go_wp2_with fail
        go_roundw
        case rel => exact ⟨q + 1, by go_num, by omega, hown4, hb4⟩
        case measure => simp [intOf] <;> omega
      · replace hyes := Lib.hid (hyes rfl)
        replace hcall := Lib.hid hcall
        clear hno
        go_wp2_with fail
        refine hcall.out.mono ?_
        rintro e w3 ⟨rfl, hb3⟩
        have hb4 := Lib.hid (((Below.refl w1.heap.size w1).trans hb.out).trans (((Below.refl w1.heap.size wr).alloc hb.out.size _).trans (hb3.mono (by have := hb.out.size; simp; omega))))
        have n2 := cell_at (heap_below n0 hb3) 0
        simp at n2
        have hown3 := Lib.hid ((hown.out.alloc _).below hb3)
        have hz := hb4.out.size
        clear hcall hb3 n0 n1 r0 r1 hown
        go_wp2_with (at_builtin; refine wpList_append_num (W := w3) rfl _ _ rfl w1.heap.size u12 out f rfl rfl hown3.out (by omega) hz ?_)
        intro v12 w5 ho5 hb5
        have hB5 := Lib.hid (hb4.out.trans hb5)
        have hown5 : Hid (OwnN w5 w1.heap.size v12 (meantN rs l true (q + 1))) := Lib.hid (by rw [hyes.out]; exact ho5)
        clear ho5 hb5 hown3
        go_wp2_with fail
        go_roundw
        case rel => exact ⟨q + 1, by go_num, by omega, hown5, hB5⟩
        case measure => simp [intOf] <;> omega
    · obtain rfl : q = l.length := by omega
      go_wp2_with fail
      go_ret2
      exact ⟨_, rfl, Lib.hid (hown.out.low hB1.out.size), hB⟩
end Go.Proofs.Ytcnebfmlelcliaa
namespace Go.Proofs.Ytcnebfmlelcliaa
open Go.RowKit

set_option maxRecDepth 100000 in
set_option maxHeartbeats 4000000 in
theorem meantNum_any (s : ByteArray) (val : Nat) (rs l : List Rng) (v vl : Value) (w : World) (hl : l.length ≤ 1000000) (hl2 : rs.length ≤ 1000000) (hk : RangesIn w w.heap.size v l) (hr : RangesIn w w.heap.size vl rs) :
    Calls Try.prog 14 #[.agg #[.string s, .int .u64 val, v], vl, .bool false] w (VMeantRet rs l false w) := by
  have hk0 := Lib.hid hk
  have hr0 := Lib.hid hr
  have hgr := Lib.hid (fun W (hW : Below w.heap.size w W) => greatest_any s val l v W hl (hk.on hW))
  have hhas := Lib.hid (fun W n (hW : Below w.heap.size w W) => seqHas_any rs vl l.length n W (by omega) (hr.on hW))
  obtain ⟨ao, cap, rfl, _⟩ := hk
  have hw : IntKind.u64.wrap (l.length : Int) = (l.length : Int) := by rw [IntKind.wrap_u64]; omega
  go_enter Try.func14, Try.ntmps14
  go_wp2_with fail
  have bw := ((((Below.refl w.heap.size w).alloc (Nat.le_refl _) (.cells #[.string s, .int .u64 val, .slice ao l.length cap] 25)).alloc (by simp) (.cells #[.int .u64 l.length] 22)).alloc (by simp; omega) (.cells #[.func (.func 27) #[] #[.pointer (some ⟨w.heap.size + 1, 0, none⟩)]] 68))
  have L0 := two_new w (.cells #[.string s, .int .u64 val, .slice ao l.length cap] 25) (.cells #[.int .u64 l.length] 22)
  obtain ⟨W2, hW2⟩ : ∃ W2, W2 = (w.alloc (.cells #[.string s, .int .u64 val, .slice ao l.length cap] 25)).alloc (.cells #[.int .u64 l.length] 22) := ⟨_, rfl⟩
  have sW2 : W2.heap.size = w.heap.size + 1 + 1 := by rw [hW2]; simp
  rw [← hW2] at L0 bw ⊢
  clear hW2
  have b3 := (Below.refl W2.heap.size W2).alloc (Nat.le_refl _) (.cells #[.func (.func 27) #[] #[.pointer (some ⟨w.heap.size + 1, 0, none⟩)]] 68)
  have z1 := heap_below L0.1 b3
  have z2 := heap_below L0.2 b3
  have z3 := cells_new W2 #[.func (.func 27) #[] #[.pointer (some ⟨w.heap.size + 1, 0, none⟩)]] 68
  rw [sW2] at z3
  generalize W2.alloc (.cells #[.func (.func 27) #[] #[.pointer (some ⟨w.heap.size + 1, 0, none⟩)]] 68) = W3 at bw z1 z2 z3 ⊢
  clear b3 L0 sW2
  have hca := outAny_any rs vl (w.heap.size + 1) (w.heap.size + 1 + 1) l.length W3 (by omega) ⟨z2, z3⟩ (hr0.out.on bw)
  clear z3
  obtain ⟨OL, hOL⟩ : ∃ b, outL rs l.length = b := ⟨_, rfl⟩
  rw [hOL] at hca
  refine hca.mono ?_
  rintro e w0 ⟨rfl, hb0⟩
  replace bw := bw.trans (hb0.out.mono bw.size)
  have y1 := heap_below z1 hb0.out
  have y2 := heap_below z2 hb0.out
  clear z1 z2 hca hb0
  cases OL
  case true =>
    have bw2 := Lib.hid bw
    clear y1 y2 bw hgr hhas
    go_wp2_with fail
    go_ret2
    refine ⟨.slice none 0 0, by rw [hOL]; rfl, Lib.hid ?_, bw2⟩
    rw [hOL]
    exact OwnN.nil _ _
  have hca2 := Lib.hid (hgr.out w0 bw)
  have bw2 := Lib.hid bw
  have x2 := cell_at y1 2
  have x3 := cell_at y2 0
  clear bw hgr
  simp at x2 x3
  replace hOL := Lib.hid hOL
  have xx := cell_at y1 0
  have xy := cell_at y1 1
  simp at xx xy
  go_wp2_with fail
  refine hca2.out.mono ?_
  rintro e w1 ⟨rfl, hb1⟩
  have hB1 := Lib.hid (bw2.out.trans (hb1.out.mono bw2.out.size))
  have t1 := heap_below y1 hb1.out
  have t2 := heap_below y2 hb1.out
  have c2 := cell_at t1 2
  simp at c2
  have L1 := (Array.getElem?_eq_some_iff.1 t1).1
  have c3 := cell_at t2 0
  simp at c3
  have L2 := (Array.getElem?_eq_some_iff.1 t2).1
  clear t1 t2 hb1 bw2 hca2 x2 x3 xx xy y1 y2
  go_wp2_with fail
  go_loopw [12, 33] (fun v12 v33 wr => ∃ q : Nat, v33 = .int .i64 q ∧ q ≤ l.length ∧ Hid (OwnN wr w1.heap.size v12 (meantN rs l false q)) ∧ Hid (Below w1.heap.size w1 wr)) (fun _ v33 _ => l.length - (intOf v33).toNat)
  case atStart => exact ⟨0, rfl, Nat.zero_le _, Lib.hid (OwnN.nil _ _), Lib.hid (Below.refl _ _)⟩
  case round =>
    obtain ⟨q, rfl, hq, hown, hb⟩ := hrel
    have hB := Lib.hid (hB1.out.trans (hb.out.mono hB1.out.size))
    have c4 := (hb.out.cell (p := ⟨w.heap.size + 1, 0, none⟩) L2).trans c3
    by_cases hlt : q < l.length
    · obtain ⟨b, o, cap', hv, hbB, hcells⟩ := rowAt (hk0.out.later hB.out) hlt
      injection hv with q1 q2 q3
      subst q1 q3
      obtain ⟨r0, r1⟩ := hcells q hlt
      have hl1 : (q : Int) < (l.length : Int) := by omega
      have hw3 : IntKind.i64.wrap ((q : Int) + 1) = (q : Int) + 1 := by rw [IntKind.wrap_i64]; omega
      have hw4 : IntKind.u64.wrap ((q : Int) + 1) = (q : Int) + 1 := by rw [IntKind.wrap_u64]; omega
      have hyes := meantN_yes (rs := rs) (byUid := false) hlt
      have hno := meantN_no (rs := rs) (byUid := false) hlt
      have hln := meantN_len rs l false q
      generalize meantN rs l false q = out at hown hyes hno hln
      generalize l[q] = k at r0 r1 hyes hno
      obtain ⟨f, t⟩ := k
      dsimp only at r0 r1 hyes hno
      rw [if_neg (by decide)] at hyes hno
      clear hcells
      have hcall := hhas.out _ (q + 1) (hB.out.alloc hB.out.size (.cells #[.int .u64 f, .int .u64 t] 63))
      rw [show ((q + 1 : Nat) : Int) = (q : Int) + 1 from by omega] at hcall
      have c5 := (((Below.refl wr.heap.size wr).alloc (Nat.le_refl _) (.cells #[.int .u64 f, .int .u64 t] 63)).cell (p := ⟨w.heap.size + 1, 0, none⟩) (by have := hb.out.size; show w.heap.size + 1 < _; omega)).trans c4
      have n0 := cells_new wr #[.int .u64 f, .int .u64 t] 63
      have n1 := cell_at n0 0
      simp at n1
      generalize hasL rs l.length (q + 1) = Z at hcall hyes hno
      cases Z
      · replace hno := Lib.hid (hno rfl)
        replace hcall := Lib.hid hcall
        clear hyes n0
        go_wp2_with fail
        refine hcall.out.mono ?_
        rintro e w3 ⟨rfl, hb3⟩
        have hb4 := Lib.hid (((Below.refl w1.heap.size w1).trans hb.out).trans (((Below.refl w1.heap.size wr).alloc hb.out.size _).trans (hb3.mono (by have := hb.out.size; simp; omega))))
        have hown4 : Hid (OwnN w3 w1.heap.size u12 (meantN rs l false (q + 1))) := Lib.hid (by rw [hno.out]; exact (hown.out.alloc _).below hb3)
        clear hcall hb3 n1 r0 r1 hown
        go_wp2_with fail
        go_roundw
        case rel => exact ⟨q + 1, by go_num, by omega, hown4, hb4⟩
        case measure => simp [intOf] <;> omega
      · replace hyes := Lib.hid (hyes rfl)
        replace hcall := Lib.hid hcall
        clear hno
        go_wp2_with fail
        refine hcall.out.mono ?_
        rintro e w3 ⟨rfl, hb3⟩
        have hb4 := Lib.hid (((Below.refl w1.heap.size w1).trans hb.out).trans (((Below.refl w1.heap.size wr).alloc hb.out.size _).trans (hb3.mono (by have := hb.out.size; simp; omega))))
        have n2 := cell_at (heap_below n0 hb3) 0
        simp at n2
        have hown3 := Lib.hid ((hown.out.alloc _).below hb3)
        have hz := hb4.out.size
        have hsz8 : (out.length + 1) * 8 ≤ 140737488355328 := by omega
        clear hcall hb3 n0 n1 r0 r1 hown c5 c4 c2 c3
        go_wp2_with (at_builtin; refine wpList_append_num (W := w3) rfl _ _ rfl w1.heap.size u12 out f rfl rfl hown3.out hsz8 hz ?_)
        intro v12 w5 ho5 hb5
        have hB5 := Lib.hid (hb4.out.trans hb5)
        have hown5 : Hid (OwnN w5 w1.heap.size v12 (meantN rs l false (q + 1))) := Lib.hid (by rw [hyes.out]; exact ho5)
        clear ho5 hb5 hown3
        go_wp2_with fail
        go_roundw
        case rel => exact ⟨q + 1, by go_num, by omega, hown5, hB5⟩
        case measure => simp [intOf] <;> omega
    · obtain rfl : q = l.length := by omega
      go_wp2_with fail
      go_ret2
      exact ⟨_, by rw [hOL.out]; rfl, Lib.hid (by rw [hOL.out]; exact hown.out.low hB1.out.size), hB⟩
end Go.Proofs.Ytcnebfmlelcliaa
