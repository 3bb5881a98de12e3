/- act on both nets: losing, making late, cutting: two calls in whatever order: walked. -/
import Derived.Test.YtjopbglimjhefaaNfK
namespace Go.Proofs.Ytjopbglimjhefaa
set_option linter.unusedSimpArgs false
open Go.RowKit Go.Maps Go.WideMaps
attribute [local go_sem ↓] Go.wp_at_zero Go.wp_at_succ

theorem PlayI.lose {s s' : Ns} {r r' : Rs} {n : Nat} {id e e' : Int} (h : PlayI s r n) (h1 : LoseS s id e s') (h2 : LoseR r id e' r') : e = e' ∧ PlayI s' r' n := by
  obtain ⟨e1, h3⟩ := h.al.lose h1 h2
  exact ⟨e1, h3, h.ok.lose h1⟩
theorem PlayI.late {s s' : Ns} {r r' : Rs} {n : Nat} {id d e e' : Int} (h : PlayI s r n) (h1 : LateS s id d e s') (h2 : LateR r id d e' r') : e = e' ∧ PlayI s' r' n := by
  obtain ⟨e1, h3⟩ := h.al.late h1 h2
  exact ⟨e1, h3, h.ok.late h1⟩
theorem PlayI.cut {s : Ns} {r : Rs} {n : Nat} (h : PlayI s r n) (x y : Int) (c : Bool) : (cutR r x y c).1 = (cutS s x y c).1 ∧ PlayI (cutS s x y c).2 (cutR r x y c).2 (n + 1) := by
  obtain ⟨e1, h3⟩ := h.al.doCut x y c
  exact ⟨e1, h3, h.ok.cut x y c⟩
def abox (kd x y k : Int) (t : ByteArray) : Array Value := #[.int .i64 kd, .int .i64 x, .int .i64 y, .int .i64 k, .string t]
theorem box_cells {W0 w : World} {L : List Th} {B : Nat} {kd x y k : Int} {t : ByteArray} (h : Zoo W0 w (boxT B (abox kd x y k t) 39 :: L)) :
    w.cell? ⟨B, 0, none⟩ = some (.int .i64 kd) ∧ w.cell? ⟨B, 1, none⟩ = some (.int .i64 x) ∧ w.cell? ⟨B, 2, none⟩ = some (.int .i64 y) ∧ w.cell? ⟨B, 3, none⟩ = some (.int .i64 k) := by
  obtain ⟨hbx, -⟩ := h.box 0 rfl
  exact ⟨box_cell hbx 0, box_cell hbx 1, box_cell hbx 2, box_cell hbx 3⟩
set_option maxRecDepth 100000 in
set_option maxHeartbeats 8000000 in
theorem act_lose {W0 W : World} {L : List Th} (bn bx : Nat) (s : Ns) (r : Rs) (n : Nat) (hI : PlayI s r n) (x y k : Int) (t : ByteArray) (hz : Zoo W0 W (netT bn s :: refT bx r :: L)) :
    Calls Try.prog 16 #[.pointer (some ⟨bn, 0, none⟩), .pointer (some ⟨bx, 0, none⟩), .agg #[.int .i64 3, .int .i64 x, .int .i64 y, .int .i64 k, .string t]] W (ActRet W0 L bn bx (n + 600)) := by
  have hz1 : Zoo W0 (W.alloc (.cells (abox 3 x y k t) 39)) (boxT W.heap.size (abox 3 x y k t) 39 :: netT bn s :: refT bx r :: L) := hz.newBox _ _
  have hcn := Lib.hid (fun (W1 : World) (r1 : Rs) (hz : Zoo W0 W1 (boxT W.heap.size (abox 3 x y k t) 39 :: netT bn s :: refT bx r1 :: L)) => lose_zoo hz 1 bn s rfl hI.ok.len x)
  have hcx := Lib.hid (fun (W1 : World) (s1 : Ns) (hz : Zoo W0 W1 (boxT W.heap.size (abox 3 x y k t) 39 :: netT bn s1 :: refT bx r :: L)) => refLose_zoo hz 2 bx r rfl hI.len x)
  have hbc := Lib.hid (fun (W1 : World) (s1 : Ns) (r1 : Rs) (hz : Zoo W0 W1 (boxT W.heap.size (abox 3 x y k t) 39 :: netT bn s1 :: refT bx r1 :: L)) => (box_cells hz).2.1)
  have hfin := Lib.hid (fun (W1 : World) (i i' : Int) (s1 : Ns) (r1 : Rs) (hz : Zoo W0 W1 (boxT W.heap.size (abox 3 x y k t) 39 :: netT bn s1 :: refT bx r1 :: L)) (h1 : LoseS s x i s1) (h2 : LoseR r x i' r1) => (⟨by rw [(hI.lose h1 h2).1]; simp, s1, r1, Lib.hid hz.tail, Lib.hid ((hI.lose h1 h2).2.more (by omega))⟩ : ActRet W0 L bn bx (n + 600) (.returned (.bool (i == i'))) W1))
  clear hI hz
  unfold abox at hz1
  replace hz1 := Lib.hid hz1
  go_enter Try.func16, Try.ntmps16
  go_wp2_with fail
  have hz0 := hz1.out.drew
  refine wp_region_hd (fun w' => w'.cell? ⟨W.heap.size, 1, none⟩ = some (.int .i64 x)) 9 1 (by kernel_rfl) rfl ⟨by kernel_rfl, by kernel_rfl, by kernel_rfl, by decide⟩ (hbc.out _ s r hz0) (fun hok hS0 => ?_)
  refine Hd.take (i := 0) (v := ?tv62) hok rfl (by kernel_rfl) (fun _ _ _ h => h) (Or.inl ⟨by rfl, ?ty62⟩) (by assumption) ?tr62
  case ty62 => (intro w hSw; (try dsimp only at hSw); go_simp; (try with_reducible rfl))
  try simp only [List.getElem_toArray, List.getElem_cons_succ, List.getElem_cons_zero, Act.put, List.setIfInBounds_toArray, List.set_cons_zero, List.set_cons_succ]
  refine Hd.take (i := 1) (v := ?tv63) hok rfl (by kernel_rfl) (fun _ _ _ h => h) (Or.inl ⟨by rfl, ?ty63⟩) (by assumption) ?tr63
  case ty63 => (intro w hSw; (try dsimp only at hSw); go_simp; (try with_reducible rfl))
  try simp only [List.getElem_toArray, List.getElem_cons_succ, List.getElem_cons_zero, Act.put, List.setIfInBounds_toArray, List.set_cons_zero, List.set_cons_succ]
  refine Hd.take (i := 2) (v := ?tv64) hok rfl (by kernel_rfl) (fun _ _ _ h => h) (Or.inl ⟨by rfl, ?ty64⟩) (by assumption) ?tr64
  case ty64 => (intro w hSw; (try dsimp only at hSw); go_simp; (try with_reducible rfl))
  try simp only [List.getElem_toArray, List.getElem_cons_succ, List.getElem_cons_zero, Act.put, List.setIfInBounds_toArray, List.set_cons_zero, List.set_cons_succ]
  refine Hd.take (i := 4) (v := ?tv65) hok rfl (by kernel_rfl) (fun _ _ _ h => h) (Or.inl ⟨by rfl, ?ty65⟩) (by assumption) ?tr65
  case ty65 => (intro w hSw; (try dsimp only at hSw); go_simp; (try with_reducible rfl))
  try simp only [List.getElem_toArray, List.getElem_cons_succ, List.getElem_cons_zero, Act.put, List.setIfInBounds_toArray, List.set_cons_zero, List.set_cons_succ]
  refine Hd.take (i := 5) (v := ?tv66) hok rfl (by kernel_rfl) (fun _ _ _ h => h) (Or.inl ⟨by rfl, ?ty66⟩) (by assumption) ?tr66
  case ty66 => (intro w hSw; (try dsimp only at hSw); go_simp; (try with_reducible rfl))
  try simp only [List.getElem_toArray, List.getElem_cons_succ, List.getElem_cons_zero, Act.put, List.setIfInBounds_toArray, List.set_cons_zero, List.set_cons_succ]
  refine Hd.take (i := 6) (v := ?tv67) hok rfl (by kernel_rfl) (fun _ _ _ h => h) (Or.inl ⟨by rfl, ?ty67⟩) (by assumption) ?tr67
  case ty67 => (intro w hSw; (try dsimp only at hSw); go_simp; (try with_reducible rfl))
  try simp only [List.getElem_toArray, List.getElem_cons_succ, List.getElem_cons_zero, Act.put, List.setIfInBounds_toArray, List.set_cons_zero, List.set_cons_succ]
  refine Hd.one (i := 3) rfl (by kernel_rfl) (fun K hK => ?_)
  go_simp
  refine (hcn.out _ r hz0).mono ?_
  rintro e w2 ⟨i1, s1, rfl, h1, hz2⟩
  dsimp only
  have hSx := hbc.out w2 s1 r hz2
  refine hK _ _ hSx ?_
  clear hK K
  try simp only [List.getElem_toArray, List.getElem_cons_succ, List.getElem_cons_zero, Act.put, List.setIfInBounds_toArray, List.set_cons_zero, List.set_cons_succ]
  refine Hd.one (i := 7) rfl (by kernel_rfl) (fun K hK => ?_)
  go_simp
  refine (hcx.out _ s1 hz2).mono ?_
  rintro e w3 ⟨i2, r1, rfl, h2, hz3⟩
  dsimp only
  refine hK _ _ (hbc.out w3 s1 r1 hz3) ?_
  clear hK K
  try simp only [List.getElem_toArray, List.getElem_cons_succ, List.getElem_cons_zero, Act.put, List.setIfInBounds_toArray, List.set_cons_zero, List.set_cons_succ]
  have hSy := hbc.out w3 s1 r1 hz3
  refine Hd.take (i := 8) (v := ?tv68) hok rfl (by kernel_rfl) (fun _ _ _ h => h) (Or.inl ⟨by rfl, ?ty68⟩) (by assumption) ?tr68
  case ty68 => (intro w hSw; (try dsimp only at hSw); go_simp; (try with_reducible rfl))
  try simp only [List.getElem_toArray, List.getElem_cons_succ, List.getElem_cons_zero, Act.put, List.setIfInBounds_toArray, List.set_cons_zero, List.set_cons_succ]
  refine Hd.done (by kernel_rfl) ?_
  simp only [List.drop_succ_cons, List.drop_zero]
  have hend := Lib.hid (hfin.out w3 i1 i2 s1 r1 hz3 h1.out h2.out)
  clear hcn hcx hbc hfin hz0 hz1 hz2 hz3 hok hS0 hSx hSy h1 h2
  go_wp2_with fail
  go_ret
  exact hend.out
set_option maxRecDepth 100000 in
set_option maxHeartbeats 8000000 in
theorem act_late {W0 W : World} {L : List Th} (bn bx : Nat) (s : Ns) (r : Rs) (n : Nat) (hn : n ≤ 500000) (hI : PlayI s r n) (x y k : Int) (t : ByteArray) (hz : Zoo W0 W (netT bn s :: refT bx r :: L)) :
    Calls Try.prog 16 #[.pointer (some ⟨bn, 0, none⟩), .pointer (some ⟨bx, 0, none⟩), .agg #[.int .i64 5, .int .i64 x, .int .i64 y, .int .i64 k, .string t]] W (ActRet W0 L bn bx (n + 600)) := by
  have hz1 : Zoo W0 (W.alloc (.cells (abox 5 x y k t) 39)) (boxT W.heap.size (abox 5 x y k t) 39 :: netT bn s :: refT bx r :: L) := hz.newBox _ _
  have hcn := Lib.hid (fun (W1 : World) (r1 : Rs) (hz : Zoo W0 W1 (boxT W.heap.size (abox 5 x y k t) 39 :: netT bn s :: refT bx r1 :: L)) => late_zoo hz 1 bn s rfl (by have := hI.ok.now; omega) hI.ok.len x k)
  have hcx := Lib.hid (fun (W1 : World) (s1 : Ns) (hz : Zoo W0 W1 (boxT W.heap.size (abox 5 x y k t) 39 :: netT bn s1 :: refT bx r :: L)) => refLate_zoo hz 2 bx r rfl (by rw [hI.al.now]; have := hI.ok.now; omega) hI.len x k)
  have hbc := Lib.hid (fun (W1 : World) (s1 : Ns) (r1 : Rs) (hz : Zoo W0 W1 (boxT W.heap.size (abox 5 x y k t) 39 :: netT bn s1 :: refT bx r1 :: L)) => (And.intro (box_cells hz).2.1 (box_cells hz).2.2.2))
  have hfin := Lib.hid (fun (W1 : World) (i i' : Int) (s1 : Ns) (r1 : Rs) (hz : Zoo W0 W1 (boxT W.heap.size (abox 5 x y k t) 39 :: netT bn s1 :: refT bx r1 :: L)) (h1 : LateS s x k i s1) (h2 : LateR r x k i' r1) => (⟨by rw [(hI.late h1 h2).1]; simp, s1, r1, Lib.hid hz.tail, Lib.hid ((hI.late h1 h2).2.more (by omega))⟩ : ActRet W0 L bn bx (n + 600) (.returned (.bool (i == i'))) W1))
  clear hI hz
  unfold abox at hz1
  replace hz1 := Lib.hid hz1
  go_enter Try.func16, Try.ntmps16
  go_wp2_with fail
  have hz0 := hz1.out.drew
  refine wp_region_hd (fun w' => w'.cell? ⟨W.heap.size, 1, none⟩ = some (.int .i64 x) ∧ w'.cell? ⟨W.heap.size, 3, none⟩ = some (.int .i64 k)) 13 1 (by kernel_rfl) rfl ⟨by kernel_rfl, by kernel_rfl, by kernel_rfl, by decide⟩ (hbc.out _ s r hz0) (fun hok hS0 => ?_)
  refine Hd.take (i := 0) (v := ?tv69) hok rfl (by kernel_rfl) (fun _ _ _ h => h) (Or.inl ⟨by rfl, ?ty69⟩) (by assumption) ?tr69
  case ty69 => (intro w hSw; (try dsimp only at hSw); go_simp; (try with_reducible rfl))
  try simp only [List.getElem_toArray, List.getElem_cons_succ, List.getElem_cons_zero, Act.put, List.setIfInBounds_toArray, List.set_cons_zero, List.set_cons_succ]
  refine Hd.take (i := 1) (v := ?tv70) hok rfl (by kernel_rfl) (fun _ _ _ h => h) (Or.inl ⟨by rfl, ?ty70⟩) (by assumption) ?tr70
  case ty70 => (intro w hSw; (try dsimp only at hSw); go_simp; (try with_reducible rfl))
  try simp only [List.getElem_toArray, List.getElem_cons_succ, List.getElem_cons_zero, Act.put, List.setIfInBounds_toArray, List.set_cons_zero, List.set_cons_succ]
  refine Hd.take (i := 2) (v := ?tv71) hok rfl (by kernel_rfl) (fun _ _ _ h => h) (Or.inl ⟨by rfl, ?ty71⟩) (by assumption) ?tr71
  case ty71 => (intro w hSw; (try dsimp only at hSw); go_simp; (try with_reducible rfl))
  try simp only [List.getElem_toArray, List.getElem_cons_succ, List.getElem_cons_zero, Act.put, List.setIfInBounds_toArray, List.set_cons_zero, List.set_cons_succ]
  refine Hd.take (i := 3) (v := ?tv72) hok rfl (by kernel_rfl) (fun _ _ _ h => h) (Or.inl ⟨by rfl, ?ty72⟩) (by assumption) ?tr72
  case ty72 => (intro w hSw; (try dsimp only at hSw); go_simp; (try with_reducible rfl))
  try simp only [List.getElem_toArray, List.getElem_cons_succ, List.getElem_cons_zero, Act.put, List.setIfInBounds_toArray, List.set_cons_zero, List.set_cons_succ]
  refine Hd.take (i := 4) (v := ?tv73) hok rfl (by kernel_rfl) (fun _ _ _ h => h) (Or.inl ⟨by rfl, ?ty73⟩) (by assumption) ?tr73
  case ty73 => (intro w hSw; (try dsimp only at hSw); go_simp; (try with_reducible rfl))
  try simp only [List.getElem_toArray, List.getElem_cons_succ, List.getElem_cons_zero, Act.put, List.setIfInBounds_toArray, List.set_cons_zero, List.set_cons_succ]
  refine Hd.take (i := 6) (v := ?tv74) hok rfl (by kernel_rfl) (fun _ _ _ h => h) (Or.inl ⟨by rfl, ?ty74⟩) (by assumption) ?tr74
  case ty74 => (intro w hSw; (try dsimp only at hSw); go_simp; (try with_reducible rfl))
  try simp only [List.getElem_toArray, List.getElem_cons_succ, List.getElem_cons_zero, Act.put, List.setIfInBounds_toArray, List.set_cons_zero, List.set_cons_succ]
  refine Hd.take (i := 7) (v := ?tv75) hok rfl (by kernel_rfl) (fun _ _ _ h => h) (Or.inl ⟨by rfl, ?ty75⟩) (by assumption) ?tr75
  case ty75 => (intro w hSw; (try dsimp only at hSw); go_simp; (try with_reducible rfl))
  try simp only [List.getElem_toArray, List.getElem_cons_succ, List.getElem_cons_zero, Act.put, List.setIfInBounds_toArray, List.set_cons_zero, List.set_cons_succ]
  refine Hd.take (i := 8) (v := ?tv76) hok rfl (by kernel_rfl) (fun _ _ _ h => h) (Or.inl ⟨by rfl, ?ty76⟩) (by assumption) ?tr76
  case ty76 => (intro w hSw; (try dsimp only at hSw); go_simp; (try with_reducible rfl))
  try simp only [List.getElem_toArray, List.getElem_cons_succ, List.getElem_cons_zero, Act.put, List.setIfInBounds_toArray, List.set_cons_zero, List.set_cons_succ]
  refine Hd.take (i := 9) (v := ?tv77) hok rfl (by kernel_rfl) (fun _ _ _ h => h) (Or.inl ⟨by rfl, ?ty77⟩) (by assumption) ?tr77
  case ty77 => (intro w hSw; (try dsimp only at hSw); go_simp; (try with_reducible rfl))
  try simp only [List.getElem_toArray, List.getElem_cons_succ, List.getElem_cons_zero, Act.put, List.setIfInBounds_toArray, List.set_cons_zero, List.set_cons_succ]
  refine Hd.take (i := 10) (v := ?tv78) hok rfl (by kernel_rfl) (fun _ _ _ h => h) (Or.inl ⟨by rfl, ?ty78⟩) (by assumption) ?tr78
  case ty78 => (intro w hSw; (try dsimp only at hSw); go_simp; (try with_reducible rfl))
  try simp only [List.getElem_toArray, List.getElem_cons_succ, List.getElem_cons_zero, Act.put, List.setIfInBounds_toArray, List.set_cons_zero, List.set_cons_succ]
  refine Hd.one (i := 5) rfl (by kernel_rfl) (fun K hK => ?_)
  go_simp
  refine (hcn.out _ r hz0).mono ?_
  rintro e w2 ⟨i1, s1, rfl, h1, hz2⟩
  dsimp only
  have hSx := hbc.out w2 s1 r hz2
  refine hK _ _ hSx ?_
  clear hK K
  try simp only [List.getElem_toArray, List.getElem_cons_succ, List.getElem_cons_zero, Act.put, List.setIfInBounds_toArray, List.set_cons_zero, List.set_cons_succ]
  refine Hd.one (i := 11) rfl (by kernel_rfl) (fun K hK => ?_)
  go_simp
  refine (hcx.out _ s1 hz2).mono ?_
  rintro e w3 ⟨i2, r1, rfl, h2, hz3⟩
  dsimp only
  refine hK _ _ (hbc.out w3 s1 r1 hz3) ?_
  clear hK K
  try simp only [List.getElem_toArray, List.getElem_cons_succ, List.getElem_cons_zero, Act.put, List.setIfInBounds_toArray, List.set_cons_zero, List.set_cons_succ]
  have hSy := hbc.out w3 s1 r1 hz3
  refine Hd.take (i := 12) (v := ?tv79) hok rfl (by kernel_rfl) (fun _ _ _ h => h) (Or.inl ⟨by rfl, ?ty79⟩) (by assumption) ?tr79
  case ty79 => (intro w hSw; (try dsimp only at hSw); go_simp; (try with_reducible rfl))
  try simp only [List.getElem_toArray, List.getElem_cons_succ, List.getElem_cons_zero, Act.put, List.setIfInBounds_toArray, List.set_cons_zero, List.set_cons_succ]
  refine Hd.done (by kernel_rfl) ?_
  simp only [List.drop_succ_cons, List.drop_zero]
  have hend := Lib.hid (hfin.out w3 i1 i2 s1 r1 hz3 h1.out h2.out)
  clear hcn hcx hbc hfin hz0 hz1 hz2 hz3 hok hS0 hSx hSy h1 h2
  go_wp2_with fail
  go_ret
  exact hend.out
set_option maxRecDepth 100000 in
set_option maxHeartbeats 8000000 in
theorem act_cut6 {W0 W : World} {L : List Th} (bn bx : Nat) (s : Ns) (r : Rs) (n : Nat) (hn : n ≤ 500000) (hI : PlayI s r n) (kd : Int) (x y k : Int) (t : ByteArray) (hz : Zoo W0 W (netT bn s :: refT bx r :: L)) (hkd : kd = 6) :
    Calls Try.prog 16 #[.pointer (some ⟨bn, 0, none⟩), .pointer (some ⟨bx, 0, none⟩), .agg #[.int .i64 kd, .int .i64 x, .int .i64 y, .int .i64 k, .string t]] W (ActRet W0 L bn bx (n + 600)) := by
  subst hkd
  have hz1 : Zoo W0 (W.alloc (.cells (abox 6 x y k t) 39)) (boxT W.heap.size (abox 6 x y k t) 39 :: netT bn s :: refT bx r :: L) := hz.newBox _ _
  have hcn := Lib.hid (fun (W1 : World) (r1 : Rs) (hz : Zoo W0 W1 (boxT W.heap.size (abox 6 x y k t) 39 :: netT bn s :: refT bx r1 :: L)) => cut_zoo hz 1 bn s rfl (by have := hI.ok.N; omega) x y true)
  have hcx := fun (W1 : World) (s1 : Ns) (hz : Zoo W0 W1 (boxT W.heap.size (abox 6 x y k t) 39 :: netT bn s1 :: refT bx r :: L)) => refCut_zoo hz 2 bx r rfl x y true
  have hcut := hI.cut x y true
  rw [hcut.1] at hcx
  have hbc := Lib.hid (fun (W1 : World) (s1 : Ns) (r1 : Rs) (hz : Zoo W0 W1 (boxT W.heap.size (abox 6 x y k t) 39 :: netT bn s1 :: refT bx r1 :: L)) => (And.intro (box_cells hz).1 (And.intro (box_cells hz).2.1 (box_cells hz).2.2.1)))
  have hI2 := Lib.hid (hcut.2.more (by omega : n + 1 ≤ n + 600))
  generalize (cutS s x y true).1 = iq at hcn hcx
  generalize (cutS s x y true).2 = s1 at hcn hI2
  generalize (cutR r x y true).2 = r1 at hcx hI2
  replace hcx := Lib.hid hcx
  clear hI hz hcut
  unfold abox at hz1
  replace hz1 := Lib.hid hz1
  go_enter Try.func16, Try.ntmps16
  go_wp2_with fail
  have hz0 := hz1.out.drew
  have qk : ((6 : Int) == 6) = true := rfl
  refine wp_region_hd (fun w' => w'.cell? ⟨W.heap.size, 0, none⟩ = some (.int .i64 6) ∧ w'.cell? ⟨W.heap.size, 1, none⟩ = some (.int .i64 x) ∧ w'.cell? ⟨W.heap.size, 2, none⟩ = some (.int .i64 y)) 19 1 (by kernel_rfl) rfl ⟨by kernel_rfl, by kernel_rfl, by kernel_rfl, by decide⟩ (hbc.out _ s r hz0) (fun hok hS0 => ?_)
  refine Hd.take (i := 0) (v := ?tv80) hok rfl (by kernel_rfl) (fun _ _ _ h => h) (Or.inl ⟨by rfl, ?ty80⟩) (by assumption) ?tr80
  case ty80 => (intro w hSw; (try dsimp only at hSw); go_simp; (try with_reducible rfl))
  try simp only [List.getElem_toArray, List.getElem_cons_succ, List.getElem_cons_zero, Act.put, List.setIfInBounds_toArray, List.set_cons_zero, List.set_cons_succ]
  refine Hd.take (i := 1) (v := ?tv81) hok rfl (by kernel_rfl) (fun _ _ _ h => h) (Or.inl ⟨by rfl, ?ty81⟩) (by assumption) ?tr81
  case ty81 => (intro w hSw; (try dsimp only at hSw); go_simp; (try with_reducible rfl))
  try simp only [List.getElem_toArray, List.getElem_cons_succ, List.getElem_cons_zero, Act.put, List.setIfInBounds_toArray, List.set_cons_zero, List.set_cons_succ]
  refine Hd.take (i := 2) (v := ?tv82) hok rfl (by kernel_rfl) (fun _ _ _ h => h) (Or.inl ⟨by rfl, ?ty82⟩) (by assumption) ?tr82
  case ty82 => (intro w hSw; (try dsimp only at hSw); go_simp; (try with_reducible rfl))
  try simp only [List.getElem_toArray, List.getElem_cons_succ, List.getElem_cons_zero, Act.put, List.setIfInBounds_toArray, List.set_cons_zero, List.set_cons_succ]
  refine Hd.take (i := 3) (v := ?tv83) hok rfl (by kernel_rfl) (fun _ _ _ h => h) (Or.inl ⟨by rfl, ?ty83⟩) (by assumption) ?tr83
  case ty83 => (intro w hSw; (try dsimp only at hSw); go_simp; (try with_reducible rfl))
  try simp only [List.getElem_toArray, List.getElem_cons_succ, List.getElem_cons_zero, Act.put, List.setIfInBounds_toArray, List.set_cons_zero, List.set_cons_succ]
  refine Hd.take (i := 4) (v := ?tv84) hok rfl (by kernel_rfl) (fun _ _ _ h => h) (Or.inl ⟨by rfl, ?ty84⟩) (by assumption) ?tr84
  case ty84 => (intro w hSw; (try dsimp only at hSw); go_simp; (try with_reducible rfl))
  try simp only [List.getElem_toArray, List.getElem_cons_succ, List.getElem_cons_zero, Act.put, List.setIfInBounds_toArray, List.set_cons_zero, List.set_cons_succ]
  refine Hd.take (i := 5) (v := ?tv85) hok rfl (by kernel_rfl) (fun _ _ _ h => h) (Or.inl ⟨by rfl, ?ty85⟩) (by assumption) ?tr85
  case ty85 => (intro w hSw; (try dsimp only at hSw); go_simp; (try with_reducible rfl))
  try simp only [List.getElem_toArray, List.getElem_cons_succ, List.getElem_cons_zero, Act.put, List.setIfInBounds_toArray, List.set_cons_zero, List.set_cons_succ]
  refine Hd.take (i := 6) (v := ?tv86) hok rfl (by kernel_rfl) (fun _ _ _ h => h) (Or.inl ⟨by rfl, ?ty86⟩) (by assumption) ?tr86
  case ty86 => (intro w hSw; (try dsimp only at hSw); go_simp; (try with_reducible rfl))
  try simp only [List.getElem_toArray, List.getElem_cons_succ, List.getElem_cons_zero, Act.put, List.setIfInBounds_toArray, List.set_cons_zero, List.set_cons_succ]
  refine Hd.take (i := 7) (v := ?tv87) hok rfl (by kernel_rfl) (fun _ _ _ h => h) (Or.inl ⟨by rfl, ?ty87⟩) (by assumption) ?tr87
  case ty87 => (intro w hSw; (try dsimp only at hSw); go_simp; (try with_reducible rfl))
  try simp only [List.getElem_toArray, List.getElem_cons_succ, List.getElem_cons_zero, Act.put, List.setIfInBounds_toArray, List.set_cons_zero, List.set_cons_succ]
  refine Hd.take (i := 9) (v := ?tv88) hok rfl (by kernel_rfl) (fun _ _ _ h => h) (Or.inl ⟨by rfl, ?ty88⟩) (by assumption) ?tr88
  case ty88 => (intro w hSw; (try dsimp only at hSw); go_simp; (try with_reducible rfl))
  try simp only [List.getElem_toArray, List.getElem_cons_succ, List.getElem_cons_zero, Act.put, List.setIfInBounds_toArray, List.set_cons_zero, List.set_cons_succ]
  refine Hd.take (i := 10) (v := ?tv89) hok rfl (by kernel_rfl) (fun _ _ _ h => h) (Or.inl ⟨by rfl, ?ty89⟩) (by assumption) ?tr89
  case ty89 => (intro w hSw; (try dsimp only at hSw); go_simp; (try with_reducible rfl))
  try simp only [List.getElem_toArray, List.getElem_cons_succ, List.getElem_cons_zero, Act.put, List.setIfInBounds_toArray, List.set_cons_zero, List.set_cons_succ]
  refine Hd.take (i := 11) (v := ?tv90) hok rfl (by kernel_rfl) (fun _ _ _ h => h) (Or.inl ⟨by rfl, ?ty90⟩) (by assumption) ?tr90
  case ty90 => (intro w hSw; (try dsimp only at hSw); go_simp; (try with_reducible rfl))
  try simp only [List.getElem_toArray, List.getElem_cons_succ, List.getElem_cons_zero, Act.put, List.setIfInBounds_toArray, List.set_cons_zero, List.set_cons_succ]
  refine Hd.take (i := 12) (v := ?tv91) hok rfl (by kernel_rfl) (fun _ _ _ h => h) (Or.inl ⟨by rfl, ?ty91⟩) (by assumption) ?tr91
  case ty91 => (intro w hSw; (try dsimp only at hSw); go_simp; (try with_reducible rfl))
  try simp only [List.getElem_toArray, List.getElem_cons_succ, List.getElem_cons_zero, Act.put, List.setIfInBounds_toArray, List.set_cons_zero, List.set_cons_succ]
  refine Hd.take (i := 13) (v := ?tv92) hok rfl (by kernel_rfl) (fun _ _ _ h => h) (Or.inl ⟨by rfl, ?ty92⟩) (by assumption) ?tr92
  case ty92 => (intro w hSw; (try dsimp only at hSw); go_simp; (try with_reducible rfl))
  try simp only [List.getElem_toArray, List.getElem_cons_succ, List.getElem_cons_zero, Act.put, List.setIfInBounds_toArray, List.set_cons_zero, List.set_cons_succ]
  refine Hd.take (i := 14) (v := ?tv93) hok rfl (by kernel_rfl) (fun _ _ _ h => h) (Or.inl ⟨by rfl, ?ty93⟩) (by assumption) ?tr93
  case ty93 => (intro w hSw; (try dsimp only at hSw); go_simp; (try with_reducible rfl))
  try simp only [List.getElem_toArray, List.getElem_cons_succ, List.getElem_cons_zero, Act.put, List.setIfInBounds_toArray, List.set_cons_zero, List.set_cons_succ]
  refine Hd.take (i := 15) (v := ?tv94) hok rfl (by kernel_rfl) (fun _ _ _ h => h) (Or.inl ⟨by rfl, ?ty94⟩) (by assumption) ?tr94
  case ty94 => (intro w hSw; (try dsimp only at hSw); go_simp; (try with_reducible rfl))
  try simp only [List.getElem_toArray, List.getElem_cons_succ, List.getElem_cons_zero, Act.put, List.setIfInBounds_toArray, List.set_cons_zero, List.set_cons_succ]
  refine Hd.take (i := 16) (v := ?tv95) hok rfl (by kernel_rfl) (fun _ _ _ h => h) (Or.inl ⟨by rfl, ?ty95⟩) (by assumption) ?tr95
  case ty95 => (intro w hSw; (try dsimp only at hSw); go_simp; (try with_reducible rfl))
  try simp only [List.getElem_toArray, List.getElem_cons_succ, List.getElem_cons_zero, Act.put, List.setIfInBounds_toArray, List.set_cons_zero, List.set_cons_succ]
  refine Hd.one (i := 8) rfl (by kernel_rfl) (fun K hK => ?_)
  go_simp
  refine (hcn.out _ r hz0).mono ?_
  rintro e w2 ⟨rfl, hz2⟩
  dsimp only
  have hSx := hbc.out w2 s1 r hz2
  refine hK _ _ hSx ?_
  clear hK K
  try simp only [List.getElem_toArray, List.getElem_cons_succ, List.getElem_cons_zero, Act.put, List.setIfInBounds_toArray, List.set_cons_zero, List.set_cons_succ]
  refine Hd.one (i := 17) rfl (by kernel_rfl) (fun K hK => ?_)
  go_simp
  refine (hcx.out _ s1 hz2).mono ?_
  rintro e w3 ⟨rfl, hz3⟩
  dsimp only
  refine hK _ _ (hbc.out w3 s1 r1 hz3) ?_
  clear hK K
  try simp only [List.getElem_toArray, List.getElem_cons_succ, List.getElem_cons_zero, Act.put, List.setIfInBounds_toArray, List.set_cons_zero, List.set_cons_succ]
  have hSy := hbc.out w3 s1 r1 hz3
  refine Hd.take (i := 18) (v := ?tv96) hok rfl (by kernel_rfl) (fun _ _ _ h => h) (Or.inl ⟨by rfl, ?ty96⟩) (by assumption) ?tr96
  case ty96 => (intro w hSw; (try dsimp only at hSw); go_simp; (try with_reducible rfl))
  try simp only [List.getElem_toArray, List.getElem_cons_succ, List.getElem_cons_zero, Act.put, List.setIfInBounds_toArray, List.set_cons_zero, List.set_cons_succ]
  refine Hd.done (by kernel_rfl) ?_
  simp only [List.drop_succ_cons, List.drop_zero]
  have hz4 : Hid (Zoo W0 w3 (netT bn s1 :: refT bx r1 :: L)) := Lib.hid (Zoo.tail hz3)
  clear hcn hcx hbc hz0 hz1 hz2 hz3 hok hS0 hSx hSy
  have q1 : (iq == iq) = true := by simp
  go_wp2_with fail
  go_ret
  exact ⟨ret_bool (by first | rfl | simp), _, _, hz4, hI2⟩
set_option maxRecDepth 100000 in
set_option maxHeartbeats 8000000 in
theorem act_cut7 {W0 W : World} {L : List Th} (bn bx : Nat) (s : Ns) (r : Rs) (n : Nat) (hn : n ≤ 500000) (hI : PlayI s r n) (kd : Int) (x y k : Int) (t : ByteArray) (hz : Zoo W0 W (netT bn s :: refT bx r :: L)) (hkd : kd = 7) :
    Calls Try.prog 16 #[.pointer (some ⟨bn, 0, none⟩), .pointer (some ⟨bx, 0, none⟩), .agg #[.int .i64 kd, .int .i64 x, .int .i64 y, .int .i64 k, .string t]] W (ActRet W0 L bn bx (n + 600)) := by
  subst hkd
  have hz1 : Zoo W0 (W.alloc (.cells (abox 7 x y k t) 39)) (boxT W.heap.size (abox 7 x y k t) 39 :: netT bn s :: refT bx r :: L) := hz.newBox _ _
  have hcn := Lib.hid (fun (W1 : World) (r1 : Rs) (hz : Zoo W0 W1 (boxT W.heap.size (abox 7 x y k t) 39 :: netT bn s :: refT bx r1 :: L)) => cut_zoo hz 1 bn s rfl (by have := hI.ok.N; omega) x y false)
  have hcx := fun (W1 : World) (s1 : Ns) (hz : Zoo W0 W1 (boxT W.heap.size (abox 7 x y k t) 39 :: netT bn s1 :: refT bx r :: L)) => refCut_zoo hz 2 bx r rfl x y false
  have hcut := hI.cut x y false
  rw [hcut.1] at hcx
  have hbc := Lib.hid (fun (W1 : World) (s1 : Ns) (r1 : Rs) (hz : Zoo W0 W1 (boxT W.heap.size (abox 7 x y k t) 39 :: netT bn s1 :: refT bx r1 :: L)) => (And.intro (box_cells hz).1 (And.intro (box_cells hz).2.1 (box_cells hz).2.2.1)))
  have hI2 := Lib.hid (hcut.2.more (by omega : n + 1 ≤ n + 600))
  generalize (cutS s x y false).1 = iq at hcn hcx
  generalize (cutS s x y false).2 = s1 at hcn hI2
  generalize (cutR r x y false).2 = r1 at hcx hI2
  replace hcx := Lib.hid hcx
  clear hI hz hcut
  unfold abox at hz1
  replace hz1 := Lib.hid hz1
  go_enter Try.func16, Try.ntmps16
  go_wp2_with fail
  have hz0 := hz1.out.drew
  have qk : ((7 : Int) == 6) = false := rfl
  refine wp_region_hd (fun w' => w'.cell? ⟨W.heap.size, 0, none⟩ = some (.int .i64 7) ∧ w'.cell? ⟨W.heap.size, 1, none⟩ = some (.int .i64 x) ∧ w'.cell? ⟨W.heap.size, 2, none⟩ = some (.int .i64 y)) 19 1 (by kernel_rfl) rfl ⟨by kernel_rfl, by kernel_rfl, by kernel_rfl, by decide⟩ (hbc.out _ s r hz0) (fun hok hS0 => ?_)
  refine Hd.take (i := 0) (v := ?tv97) hok rfl (by kernel_rfl) (fun _ _ _ h => h) (Or.inl ⟨by rfl, ?ty97⟩) (by assumption) ?tr97
  case ty97 => (intro w hSw; (try dsimp only at hSw); go_simp; (try with_reducible rfl))
  try simp only [List.getElem_toArray, List.getElem_cons_succ, List.getElem_cons_zero, Act.put, List.setIfInBounds_toArray, List.set_cons_zero, List.set_cons_succ]
  refine Hd.take (i := 1) (v := ?tv98) hok rfl (by kernel_rfl) (fun _ _ _ h => h) (Or.inl ⟨by rfl, ?ty98⟩) (by assumption) ?tr98
  case ty98 => (intro w hSw; (try dsimp only at hSw); go_simp; (try with_reducible rfl))
  try simp only [List.getElem_toArray, List.getElem_cons_succ, List.getElem_cons_zero, Act.put, List.setIfInBounds_toArray, List.set_cons_zero, List.set_cons_succ]
  refine Hd.take (i := 2) (v := ?tv99) hok rfl (by kernel_rfl) (fun _ _ _ h => h) (Or.inl ⟨by rfl, ?ty99⟩) (by assumption) ?tr99
  case ty99 => (intro w hSw; (try dsimp only at hSw); go_simp; (try with_reducible rfl))
  try simp only [List.getElem_toArray, List.getElem_cons_succ, List.getElem_cons_zero, Act.put, List.setIfInBounds_toArray, List.set_cons_zero, List.set_cons_succ]
  refine Hd.take (i := 3) (v := ?tv100) hok rfl (by kernel_rfl) (fun _ _ _ h => h) (Or.inl ⟨by rfl, ?ty100⟩) (by assumption) ?tr100
  case ty100 => (intro w hSw; (try dsimp only at hSw); go_simp; (try with_reducible rfl))
  try simp only [List.getElem_toArray, List.getElem_cons_succ, List.getElem_cons_zero, Act.put, List.setIfInBounds_toArray, List.set_cons_zero, List.set_cons_succ]
  refine Hd.take (i := 4) (v := ?tv101) hok rfl (by kernel_rfl) (fun _ _ _ h => h) (Or.inl ⟨by rfl, ?ty101⟩) (by assumption) ?tr101
  case ty101 => (intro w hSw; (try dsimp only at hSw); go_simp; (try with_reducible rfl))
  try simp only [List.getElem_toArray, List.getElem_cons_succ, List.getElem_cons_zero, Act.put, List.setIfInBounds_toArray, List.set_cons_zero, List.set_cons_succ]
  refine Hd.take (i := 5) (v := ?tv102) hok rfl (by kernel_rfl) (fun _ _ _ h => h) (Or.inl ⟨by rfl, ?ty102⟩) (by assumption) ?tr102
  case ty102 => (intro w hSw; (try dsimp only at hSw); go_simp; (try with_reducible rfl))
  try simp only [List.getElem_toArray, List.getElem_cons_succ, List.getElem_cons_zero, Act.put, List.setIfInBounds_toArray, List.set_cons_zero, List.set_cons_succ]
  refine Hd.take (i := 6) (v := ?tv103) hok rfl (by kernel_rfl) (fun _ _ _ h => h) (Or.inl ⟨by rfl, ?ty103⟩) (by assumption) ?tr103
  case ty103 => (intro w hSw; (try dsimp only at hSw); go_simp; (try with_reducible rfl))
  try simp only [List.getElem_toArray, List.getElem_cons_succ, List.getElem_cons_zero, Act.put, List.setIfInBounds_toArray, List.set_cons_zero, List.set_cons_succ]
  refine Hd.take (i := 7) (v := ?tv104) hok rfl (by kernel_rfl) (fun _ _ _ h => h) (Or.inl ⟨by rfl, ?ty104⟩) (by assumption) ?tr104
  case ty104 => (intro w hSw; (try dsimp only at hSw); go_simp; (try with_reducible rfl))
  try simp only [List.getElem_toArray, List.getElem_cons_succ, List.getElem_cons_zero, Act.put, List.setIfInBounds_toArray, List.set_cons_zero, List.set_cons_succ]
  refine Hd.take (i := 9) (v := ?tv105) hok rfl (by kernel_rfl) (fun _ _ _ h => h) (Or.inl ⟨by rfl, ?ty105⟩) (by assumption) ?tr105
  case ty105 => (intro w hSw; (try dsimp only at hSw); go_simp; (try with_reducible rfl))
  try simp only [List.getElem_toArray, List.getElem_cons_succ, List.getElem_cons_zero, Act.put, List.setIfInBounds_toArray, List.set_cons_zero, List.set_cons_succ]
  refine Hd.take (i := 10) (v := ?tv106) hok rfl (by kernel_rfl) (fun _ _ _ h => h) (Or.inl ⟨by rfl, ?ty106⟩) (by assumption) ?tr106
  case ty106 => (intro w hSw; (try dsimp only at hSw); go_simp; (try with_reducible rfl))
  try simp only [List.getElem_toArray, List.getElem_cons_succ, List.getElem_cons_zero, Act.put, List.setIfInBounds_toArray, List.set_cons_zero, List.set_cons_succ]
  refine Hd.take (i := 11) (v := ?tv107) hok rfl (by kernel_rfl) (fun _ _ _ h => h) (Or.inl ⟨by rfl, ?ty107⟩) (by assumption) ?tr107
  case ty107 => (intro w hSw; (try dsimp only at hSw); go_simp; (try with_reducible rfl))
  try simp only [List.getElem_toArray, List.getElem_cons_succ, List.getElem_cons_zero, Act.put, List.setIfInBounds_toArray, List.set_cons_zero, List.set_cons_succ]
  refine Hd.take (i := 12) (v := ?tv108) hok rfl (by kernel_rfl) (fun _ _ _ h => h) (Or.inl ⟨by rfl, ?ty108⟩) (by assumption) ?tr108
  case ty108 => (intro w hSw; (try dsimp only at hSw); go_simp; (try with_reducible rfl))
  try simp only [List.getElem_toArray, List.getElem_cons_succ, List.getElem_cons_zero, Act.put, List.setIfInBounds_toArray, List.set_cons_zero, List.set_cons_succ]
  refine Hd.take (i := 13) (v := ?tv109) hok rfl (by kernel_rfl) (fun _ _ _ h => h) (Or.inl ⟨by rfl, ?ty109⟩) (by assumption) ?tr109
  case ty109 => (intro w hSw; (try dsimp only at hSw); go_simp; (try with_reducible rfl))
  try simp only [List.getElem_toArray, List.getElem_cons_succ, List.getElem_cons_zero, Act.put, List.setIfInBounds_toArray, List.set_cons_zero, List.set_cons_succ]
  refine Hd.take (i := 14) (v := ?tv110) hok rfl (by kernel_rfl) (fun _ _ _ h => h) (Or.inl ⟨by rfl, ?ty110⟩) (by assumption) ?tr110
  case ty110 => (intro w hSw; (try dsimp only at hSw); go_simp; (try with_reducible rfl))
  try simp only [List.getElem_toArray, List.getElem_cons_succ, List.getElem_cons_zero, Act.put, List.setIfInBounds_toArray, List.set_cons_zero, List.set_cons_succ]
  refine Hd.take (i := 15) (v := ?tv111) hok rfl (by kernel_rfl) (fun _ _ _ h => h) (Or.inl ⟨by rfl, ?ty111⟩) (by assumption) ?tr111
  case ty111 => (intro w hSw; (try dsimp only at hSw); go_simp; (try with_reducible rfl))
  try simp only [List.getElem_toArray, List.getElem_cons_succ, List.getElem_cons_zero, Act.put, List.setIfInBounds_toArray, List.set_cons_zero, List.set_cons_succ]
  refine Hd.take (i := 16) (v := ?tv112) hok rfl (by kernel_rfl) (fun _ _ _ h => h) (Or.inl ⟨by rfl, ?ty112⟩) (by assumption) ?tr112
  case ty112 => (intro w hSw; (try dsimp only at hSw); go_simp; (try with_reducible rfl))
  try simp only [List.getElem_toArray, List.getElem_cons_succ, List.getElem_cons_zero, Act.put, List.setIfInBounds_toArray, List.set_cons_zero, List.set_cons_succ]
  refine Hd.one (i := 8) rfl (by kernel_rfl) (fun K hK => ?_)
  go_simp
  refine (hcn.out _ r hz0).mono ?_
  rintro e w2 ⟨rfl, hz2⟩
  dsimp only
  have hSx := hbc.out w2 s1 r hz2
  refine hK _ _ hSx ?_
  clear hK K
  try simp only [List.getElem_toArray, List.getElem_cons_succ, List.getElem_cons_zero, Act.put, List.setIfInBounds_toArray, List.set_cons_zero, List.set_cons_succ]
  refine Hd.one (i := 17) rfl (by kernel_rfl) (fun K hK => ?_)
  go_simp
  refine (hcx.out _ s1 hz2).mono ?_
  rintro e w3 ⟨rfl, hz3⟩
  dsimp only
  refine hK _ _ (hbc.out w3 s1 r1 hz3) ?_
  clear hK K
  try simp only [List.getElem_toArray, List.getElem_cons_succ, List.getElem_cons_zero, Act.put, List.setIfInBounds_toArray, List.set_cons_zero, List.set_cons_succ]
  have hSy := hbc.out w3 s1 r1 hz3
  refine Hd.take (i := 18) (v := ?tv113) hok rfl (by kernel_rfl) (fun _ _ _ h => h) (Or.inl ⟨by rfl, ?ty113⟩) (by assumption) ?tr113
  case ty113 => (intro w hSw; (try dsimp only at hSw); go_simp; (try with_reducible rfl))
  try simp only [List.getElem_toArray, List.getElem_cons_succ, List.getElem_cons_zero, Act.put, List.setIfInBounds_toArray, List.set_cons_zero, List.set_cons_succ]
  refine Hd.done (by kernel_rfl) ?_
  simp only [List.drop_succ_cons, List.drop_zero]
  have hz4 : Hid (Zoo W0 w3 (netT bn s1 :: refT bx r1 :: L)) := Lib.hid (Zoo.tail hz3)
  clear hcn hcx hbc hz0 hz1 hz2 hz3 hok hS0 hSx hSy
  have q1 : (iq == iq) = true := by simp
  go_wp2_with fail
  go_ret
  exact ⟨ret_bool (by first | rfl | simp), _, _, hz4, hI2⟩
end Go.Proofs.Ytjopbglimjhefaa
