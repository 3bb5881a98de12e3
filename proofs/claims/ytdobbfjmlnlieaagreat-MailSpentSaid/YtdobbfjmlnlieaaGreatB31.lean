/- MailSpent: walked. -/
import Derived.Test.YtdobbfjmlnlieaaGreatB19
import Derived.Test.YtdobbfjmlnlieaaGreatB27
import Derived.Test.YtdobbfjmlnlieaaGreatB25
import Derived.Test.YtdobbfjmlnlieaaGreatB30
import Derived.Test.YtdobbfjmlnlieaaGreatB22
import Derived.Great.BuildSlice
namespace Go.Proofs.YtdobbfjmlnlieaaGreat
set_option linter.unusedSimpArgs false
open Go.RowKit
attribute [local go_sem ↓] Go.wp_at_zero Go.wp_at_succ

theorem wpList_load_cells_w {P : Program} {ops : Array Oper} {o : Oper} {rest : List Oper} {a : Act} {w : World} {Q : Exit → Act → World → Prop} (hw : Region.wanted o (yielded ops a.tmps) = true) (t : TypeId) (x : Operand) (ho : o.op = .load t x) (b off : Nat) (cs : List Value) (hx : a.eval x = .pointer (some ⟨b, off, none⟩)) (hagg : ∀ w, (isAgg t).run P w = .ok true w) (hsz : ∀ w, (Go.sizeOf t).run P w = .ok cs.length w) (h : ∀ j v, cs[j]? = some v → w.cell? ⟨b, off + j, none⟩ = some v)
    (hK : wpList P ops Q rest (a.put o.dst (.agg cs.toArray)) w) : wpList P ops Q (o :: rest) a w :=
  BigFrame.wpList_want hw fun K hK' => by
    have h1 := exec_load_cells (P := P) (ρ := a.eval) t x ho b off cs hx hagg hsz w h
    unfold Oper.wp
    simp only [h1, Result.andThen]
    exact hK' _ _ hK
theorem fill_rq (q : Rq) (y : RqV) : Instr.fill (fun i => some (i * 17, 17)) ((Array.range (1 * 17)).map (rqT.z.cells[· % rqT.z.cells.size]!)) [(0, .agg (rqCells q y).toArray)] = some (rqCells q y).toArray := by kernel_rfl
theorem wpList_rq1 {ops : Array Oper} {rest : List Oper} {o : Oper} {a : Act} {w : World} {Q : Exit → Act → World → Prop} {q : Rq} {y : RqV} (hw : Region.wanted o (yielded ops a.tmps) = true) (x : Operand) (ho : o.op = .buildSlice 28 1 #[(0, x)]) (hx : a.eval x = .agg (rqCells q y).toArray)
    (h : wpList Tryz.prog ops Q rest (a.put o.dst (.slice (some ⟨w.heap.size, 0, none⟩) 1 1)) (w.alloc (.cells (rqCells q y).toArray 41))) : wpList Tryz.prog ops Q (o :: rest) a w := by
  obtain ⟨ie, h1, hi⟩ := Option.map_eq_some_iff.1 rqT.info
  have h2 : ie.size = 17 := congrArg (fun z => z.2.1) hi
  have h3 : ie.zero = some rqT.z := congrArg (fun z => z.1) hi
  refine BigFrame.wpList_want hw fun _ hK => wp_buildSlice 28 41 1 #[(0, x)] ho (rqCells q y).toArray ie rqT.z Tryz.underlying28 h1 h3 (by rw [h2]; decide) (by rw [h2]; decide) ?_ (hK _ _ h)
  rw [h2]
  exact Eq.trans (congrArg (Instr.fill _ _) (show _ = [(0, Value.agg (rqCells q y).toArray)] from by simp [hx])) (fill_rq q y)
theorem zero_in (W : World) : MlIn W (.agg #[.slice none 0 0, .int .u64 0, .slice none 0 0, .slice none 0 0, .int .u64 0, .int .u64 0]) ⟨[], 0, [], [], 0, 0⟩ :=
  ⟨.slice none 0 0, .slice none 0 0, .slice none 0 0, [], rfl, rfl, ⟨⟨none, 0, rfl, .inl rfl⟩, fun x hx => by cases hx⟩, ⟨none, 0, rfl, .inl rfl⟩, ⟨none, 0, rfl, .inl rfl⟩⟩
/-- the letters of the mailbox -/
def spRows (FLB : Nat) : List LtV := [⟨⟨3, [delL], 2, h1B, 0⟩, some ⟨FLB, 0, none⟩, 1⟩, ⟨⟨8, [], 9, h2B, 0⟩, none, 0⟩]
def spX (u s : Bool) (FLB LRB : Nat) : BxV := ⟨inB, 7, (spB u s).next, (spB u s).high, spRows FLB, some ⟨LRB, 0, none⟩, 2⟩
def spT (FLB LRB : Nat) : List Th := [boxT LRB (ltT.cells (spRows FLB)).toArray 50, boxT FLB #[.string ⟨#[92, 68, 101, 108, 101, 116, 101, 100]⟩] 9]
/-- they are read where the blocks lie so -/
theorem sp_read {W w : World} {A B : List Th} {FLB LRB : Nat} (hz : Zoo W w (A ++ (spT FLB LRB ++ B))) (hL : LRB < w.heap.size) (hF : FLB < w.heap.size) : LtsIn w (.slice (some ⟨LRB, 0, none⟩) 2 2) (spRows FLB) := by
  have h1 := (hz.sub (L' := spT FLB LRB) ((List.sublist_append_left _ _).trans (List.sublist_append_right _ _)))
  obtain ⟨hb, -⟩ := h1.box (B := LRB) (C := (ltT.cells (spRows FLB)).toArray) (t := 50) 0 rfl
  obtain ⟨hf, -⟩ := h1.box (B := FLB) (C := #[.string ⟨#[92, 68, 101, 108, 101, 116, 101, 100]⟩]) (t := 9) 1 rfl
  refine ⟨⟨_, 2, rfl, .inr ⟨LRB, 0, rfl, hL, Nat.le_refl _, fun i v hv => by rw [Nat.zero_add, box_cell hb i, List.getElem?_toArray]; exact hv⟩⟩, fun y hy => ?_⟩
  unfold spRows at hy
  rcases List.mem_cons.1 hy with rfl | hy
  · exact ⟨_, 1, rfl, .inr ⟨FLB, 0, rfl, hF, Nat.le_refl _, fun i v hv => by rw [Nat.zero_add, box_cell hf i, List.getElem?_toArray]; exact hv⟩⟩
  · rw [List.mem_singleton.1 hy]
    exact ⟨none, 0, rfl, .inl rfl⟩
theorem sp_xb (u s : Bool) (FLB LRB : Nat) : (spX u s FLB LRB).b = spB u s := rfl
/-- the state, and where it lies -/
def spS (u s : Bool) (FLB LRB BB : Nat) : List Th := [boxT (BB + 1 + 1 + 1) [.slice (some ⟨BB, 0, none⟩) 1 1, .int .u64 4294967296, .slice (some ⟨BB + 1, 0, none⟩) 1 1, .slice (some ⟨BB + 1 + 1, 0, none⟩) 1 1, .int .u64 2, .int .u64 0].toArray 27, boxT (BB + 1 + 1) [.int .u64 1, .int .u64 4, .int .i64 1, .int .u64 1, .int .u64 1].toArray 69, boxT (BB + 1) [.int .i64 1, .int .u64 1, .int .u64 1].toArray 67, boxT BB (bxCells (spX u s FLB LRB)).toArray 48]
theorem sp_in {W w : World} {B : List Th} {FLB LRB BB : Nat} {u s : Bool} (hz : Zoo W w (spS u s FLB LRB BB ++ (boxT (LRB + 1) (bxCells (spX u s FLB LRB)).toArray 48 :: (spT FLB LRB ++ B)))) (hB : BB + 3 < w.heap.size) (hL : LRB < w.heap.size) (hF : FLB < w.heap.size) : MlIn w (.agg [.slice (some ⟨BB, 0, none⟩) 1 1, .int .u64 4294967296, .slice (some ⟨BB + 1, 0, none⟩) 1 1, .slice (some ⟨BB + 1 + 1, 0, none⟩) 1 1, .int .u64 2, .int .u64 0].toArray) (spM u s) := by
  have h1 := hz.sub (L' := spS u s FLB LRB BB) (List.sublist_append_left _ _)
  obtain ⟨hbS, -⟩ := h1.box (B := BB + 1 + 1) (C := [.int .u64 1, .int .u64 4, .int .i64 1, .int .u64 1, .int .u64 1].toArray) (t := 69) 1 rfl
  obtain ⟨hbH, -⟩ := h1.box (B := BB + 1) (C := [.int .i64 1, .int .u64 1, .int .u64 1].toArray) (t := 67) 2 rfl
  obtain ⟨hbB, -⟩ := h1.box (B := BB) (C := (bxCells (spX u s FLB LRB)).toArray) (t := 48) 3 rfl
  have hr := sp_read (A := spS u s FLB LRB BB ++ [boxT (LRB + 1) (bxCells (spX u s FLB LRB)).toArray 48]) (B := B) (FLB := FLB) (LRB := LRB) (by rw [List.append_assoc]; exact hz) hL hF
  refine ⟨.slice (some ⟨BB, 0, none⟩) 1 1, .slice (some ⟨BB + 1, 0, none⟩) 1 1, .slice (some ⟨BB + 1 + 1, 0, none⟩) 1 1, [spX u s FLB LRB], rfl, rfl, ⟨⟨_, 1, rfl, .inr ⟨BB, 0, rfl, by omega, Nat.le_refl _, fun i v hv => ?_⟩⟩, fun y hy => by rw [List.mem_singleton.1 hy]; exact hr⟩, ⟨_, 1, rfl, .inr ⟨BB + 1, 0, rfl, by omega, Nat.le_refl _, fun i v hv => ?_⟩⟩, ⟨_, 1, rfl, .inr ⟨BB + 1 + 1, 0, rfl, by omega, Nat.le_refl _, fun i v hv => ?_⟩⟩⟩
  · rw [Nat.zero_add, box_cell hbB i, List.getElem?_toArray]; exact hv
  · rw [Nat.zero_add, box_cell hbH i, List.getElem?_toArray]; exact hv
  · rw [Nat.zero_add, box_cell hbS i, List.getElem?_toArray]; exact hv
set_option maxRecDepth 100000 in
set_option maxHeartbeats 16000000 in
theorem mailSpent_any (v : Value) (u s : Bool) (W : World) (hv : ∃ k : RqP, v = .agg (rqT.enc k).toArray ∧ RqIn W k.1 k.2) :
    Calls Tryz.prog 10 #[v, .bool u, .bool s] W fun e w' => e = .returned (.bool true) ∧ Below W.heap.size W w' := by
  obtain ⟨⟨q, y⟩, rfl, hq⟩ := hv
  have hq0 : Hid (∀ w', Below W.heap.size W w' → RqIn w' q y) := Lib.hid (fun w' h => hq.below h)
  have hz1 := (Zoo.nil W).newBox (rqCells q y).toArray 41
  have hlt1 : W.heap.size < (W.alloc (.cells (rqCells q y).toArray 41)).heap.size := by simp
  generalize hRB : W.heap.size = RB at hz1 hlt1
  generalize hWa : (W.alloc (.cells (rqCells q y).toArray 41)) = Wa at hz1 hlt1
  replace hz1 := Lib.hid hz1
  replace hlt1 := Lib.hid hlt1
  clear hq
  show Calls Tryz.prog 10 #[.agg (rqCells q y).toArray, .bool u, .bool s] W _
  go_enter Tryz.func10, Tryz.ntmps10
  go_upto_region 1 with fail
  clear hWa
  replace hRB := Lib.hid hRB
  go_wp2_with fail
  refine (alive_any _).mono ?_
  rintro e w1 ⟨rfl, hb1⟩
  dsimp only
  have hz2 := Lib.hid (hz1.out.below hb1.out)
  obtain ⟨hbR, -⟩ := hz2.out.box 0 rfl
  have hld := Lib.hid (fun j v (hj : (rqCells q y)[j]? = some v) => (show w1.cell? ⟨RB, 0 + j, none⟩ = some v by rw [Nat.zero_add, box_cell hbR j, List.getElem?_toArray]; exact hj))
  clear hbR hz1 hb1 hlt1
  go_wp2_with (first | refine wpList_load_cells_w (by rfl) 41 (.tmp 3) rfl RB 0 (rqCells q y) (by rfl) Tryz.isAgg41 Tryz.sizeOf41 hld.out ?_ | refine wpList_rq1 (q := q) (y := y) (by rfl) (.tmp 16) rfl (by rfl) ?_)
  have hba := (Below.refl w1.heap.size w1).alloc (Nat.le_refl _) (.cells (rqCells q y).toArray 41)
  have hnw := heap_alloc_new w1 (.cells (rqCells q y).toArray 41)
  have hnl : w1.heap.size < (w1.alloc (.cells (rqCells q y).toArray 41)).heap.size := by simp
  change Calls Tryz.prog 12 _ (w1.alloc (.cells (rqCells q y).toArray 41)) _
  have hz3 := Lib.hid (hz2.out.below hba)
  generalize (w1.alloc (.cells (rqCells q y).toArray 41)) = w2 at hba hnw hnl hz3 ⊢
  generalize w1.heap.size = LB at hnw hnl ⊢
  have hrqs : RqsIn w2 (.slice (some ⟨LB, 0, none⟩) 1 1) [(q, y)] := ⟨⟨_, 1, rfl, .inr ⟨LB, 0, rfl, hnl, Nat.le_refl _, fun i v hv => by
    rw [Nat.zero_add, box_cell hnw i, List.getElem?_toArray, ← hv]
    show _ = (rqCells q y ++ [])[i]?
    rw [List.append_nil]⟩⟩, fun p hp => by rw [List.mem_singleton.1 hp]; exact hq0.out w2 hz3.out.bel⟩
  refine (light_any _ _ (zero_in w2) hrqs).mono ?_
  rintro e w3 ⟨rfl, hb3⟩
  dsimp only
  have hz4 := Lib.hid (hz3.out.below hb3.out)
  clear hld hba hnw hnl hrqs hz3 hz2
  generalize hB : lightB _ _ = B
  replace hB := Lib.hid hB
  cases B with
  | false =>
    go_wp2_with fail
    refine (alive_any _).mono ?_
    rintro e w4 ⟨rfl, hb4⟩
    dsimp only
    have hbF := Lib.hid (hz4.out.below hb4.out).bel
    clear hz4
    go_wp2_with fail
    go_ret
    first | exact ⟨rfl, hbF.out⟩ | (rw [← hRB.out]; exact ⟨rfl, hbF.out⟩)
  | true =>
    have hqo := Lib.hid (light_rq hB.out q (List.mem_cons_self ..))
    clear hB hb3
    go_wp2_with fail
    have hba := (Below.refl w3.heap.size w3).alloc (Nat.le_refl _) (.cells #[.string ⟨#[92, 68, 101, 108, 101, 116, 101, 100]⟩] 9)
    have hnw := heap_alloc_new w3 (.cells #[Value.string ⟨#[92, 68, 101, 108, 101, 116, 101, 100]⟩] 9)
    have hnl : w3.heap.size < (w3.alloc (.cells #[.string ⟨#[92, 68, 101, 108, 101, 116, 101, 100]⟩] 9)).heap.size := by simp
    have hz5 := Lib.hid (hz4.out.newBox #[.string ⟨#[92, 68, 101, 108, 101, 116, 101, 100]⟩] 9)
    generalize (w3.alloc (.cells #[.string ⟨#[92, 68, 101, 108, 101, 116, 101, 100]⟩] 9)) = w4 at hba hnw hnl hz5 ⊢
    generalize w3.heap.size = FLB at hnw hnl hz5 ⊢
    clear hba hnw hz4
    replace hnl := Lib.hid hnl
    refine (hash_any _).mono ?_
    rintro e w5 ⟨rfl, hb5⟩
    dsimp only
    go_wp2_with fail
    refine (hash2_any _).mono ?_
    rintro e w6 ⟨rfl, hb6⟩
    dsimp only
    have hb46 := Lib.hid (hb5.out.trans (hb6.out.mono hb5.out.size))
    have hF6 := Lib.hid (Nat.lt_of_lt_of_le hnl.out hb46.out.size)
    have hz6 := Lib.hid (hz5.out.below hb46.out)
    clear hb5 hb6 hz5 hb46 hnl
    go_upto_region 4 with fail
    have hs7 : (w6.alloc (.cells (ltT.cells (spRows FLB)).toArray 50)).heap.size = w6.heap.size + 1 := by simp
    have hz7 := (hz6.out.newBox (ltT.cells (spRows FLB)).toArray 50).newBox [.string ⟨#[73, 78, 66, 79, 88]⟩, .int .u64 7, .int .u64 9, .int .u64 9, .slice (some ⟨w6.heap.size, 0, none⟩) 2 2].toArray 48
    rw [hs7] at hz7
    have hs8 : w6.heap.size + 2 = ((w6.alloc (.cells (ltT.cells (spRows FLB)).toArray 50)).alloc (.cells [.string ⟨#[73, 78, 66, 79, 88]⟩, .int .u64 7, .int .u64 9, .int .u64 9, .slice (some ⟨w6.heap.size, 0, none⟩) 2 2].toArray 48)).heap.size := by simp
    change Code.wp _ _ _ _ ((w6.alloc (.cells (ltT.cells (spRows FLB)).toArray 50)).alloc (.cells [.string ⟨#[73, 78, 66, 79, 88]⟩, .int .u64 7, .int .u64 9, .int .u64 9, .slice (some ⟨w6.heap.size, 0, none⟩) 2 2].toArray 48))
    generalize ((w6.alloc (.cells (ltT.cells (spRows FLB)).toArray 50)).alloc (.cells [.string ⟨#[73, 78, 66, 79, 88]⟩, .int .u64 7, .int .u64 9, .int .u64 9, .slice (some ⟨w6.heap.size, 0, none⟩) 2 2].toArray 48)) = w7 at hz7 hs8 ⊢
    have hF7 : Hid (FLB < w6.heap.size) := hF6
    generalize w6.heap.size = LRB at hz7 hs8 hF7 ⊢
    replace hs8 := Lib.hid hs8
    replace hz7 := Lib.hid hz7
    clear hs7 hz6 hF6
    obtain ⟨hbX, -⟩ := hz7.out.box 0 rfl
    have x2 : w7.cell? ⟨LRB + 1, 2, none⟩ = some (.int .u64 9) := box_cell hbX 2
    have f2 : w7.frozen? ⟨LRB + 1, 2, none⟩ = false := box_free hbX 2
    clear hbX
    go_upto_if 29 with fail
    go_cut [] (fun wx => Hid (Zoo W wx (boxT (LRB + 1) [.string ⟨#[73, 78, 66, 79, 88]⟩, .int .u64 7, .int .u64 (spB u false).next, .int .u64 9, .slice (some ⟨LRB, 0, none⟩) 2 2].toArray 48 :: (spT FLB LRB ++ [boxT RB (rqCells q y).toArray 41]))) ∧ Hid (LRB + 2 = wx.heap.size))
    case first =>
      cases u with
      | true =>
        have hzF := Lib.hid (hz7.out.setBox 0 rfl 2 (.int .u64 4294967296))
        go_wp2_with fail
        go_meet
        case rel => exact ⟨hzF, Lib.hid (by rw [hs8.out]; simp)⟩
      | false =>
        go_wp2_with fail
        go_meet
        case rel => exact ⟨hz7, hs8⟩
    case rest =>
    clear x2 f2 hz7 hs8
    obtain ⟨hz7, hs8⟩ := hcut
    generalize wc = w8 at *
    go_upto_if 31 with fail
    obtain ⟨hbX, -⟩ := hz7.out.box 0 rfl
    have x3 : w8.cell? ⟨LRB + 1, 3, none⟩ = some (.int .u64 9) := box_cell hbX 3
    have f3 : w8.frozen? ⟨LRB + 1, 3, none⟩ = false := box_free hbX 3
    clear hbX
    go_cut [] (fun wx => Hid (Zoo W wx (boxT (LRB + 1) (bxCells (spX u s FLB LRB)).toArray 48 :: (spT FLB LRB ++ [boxT RB (rqCells q y).toArray 41]))) ∧ Hid (LRB + 2 = wx.heap.size))
    case first =>
      cases s with
      | true =>
        have hzF := Lib.hid (hz7.out.setBox 0 rfl 3 (.int .u64 9223372036854775807))
        go_wp2_with fail
        go_meet
        case rel => exact ⟨hzF, Lib.hid (by rw [hs8.out]; simp)⟩
      | false =>
        go_wp2_with fail
        go_meet
        case rel => exact ⟨hz7, hs8⟩
    case rest =>
    clear x3 f3 hz7 hs8
    obtain ⟨hz8, hs9⟩ := hcut
    generalize wc = w9 at *
    obtain ⟨hbX, -⟩ := hz8.out.box (B := LRB + 1) (C := (bxCells (spX u s FLB LRB)).toArray) (t := 48) 0 rfl
    have x0 : w9.cell? ⟨LRB + 1, 0, none⟩ = some (.string ⟨#[73, 78, 66, 79, 88]⟩) := box_cell hbX 0
    have x1 : w9.cell? ⟨LRB + 1, 1, none⟩ = some (.int .u64 7) := box_cell hbX 1
    have x2 : w9.cell? ⟨LRB + 1, 2, none⟩ = some (.int .u64 (spB u s).next) := box_cell hbX 2
    have x3 : w9.cell? ⟨LRB + 1, 3, none⟩ = some (.int .u64 (spB u s).high) := box_cell hbX 3
    have x4 : w9.cell? ⟨LRB + 1, 4, none⟩ = some (.slice (some ⟨LRB, 0, none⟩) 2 2) := box_cell hbX 4
    clear hbX
    go_upto_region 9 with fail
    clear x0 x1 x2 x3 x4
    have e1 : (w9.alloc (.cells (bxCells (spX u s FLB LRB)).toArray 48)).heap.size = w9.heap.size + 1 := by simp
    have e2 : ((w9.alloc (.cells (bxCells (spX u s FLB LRB)).toArray 48)).alloc (.cells [.int .i64 1, .int .u64 1, .int .u64 1].toArray 67)).heap.size = w9.heap.size + 1 + 1 := by simp
    have e3 : (((w9.alloc (.cells (bxCells (spX u s FLB LRB)).toArray 48)).alloc (.cells [.int .i64 1, .int .u64 1, .int .u64 1].toArray 67)).alloc (.cells [.int .u64 1, .int .u64 4, .int .i64 1, .int .u64 1, .int .u64 1].toArray 69)).heap.size = w9.heap.size + 1 + 1 + 1 := by simp
    have e4 : w9.heap.size + 4 = ((((w9.alloc (.cells (bxCells (spX u s FLB LRB)).toArray 48)).alloc (.cells [.int .i64 1, .int .u64 1, .int .u64 1].toArray 67)).alloc (.cells [.int .u64 1, .int .u64 4, .int .i64 1, .int .u64 1, .int .u64 1].toArray 69)).alloc (.cells [.slice (some ⟨w9.heap.size, 0, none⟩) 1 1, .int .u64 4294967296, .slice (some ⟨w9.heap.size + 1, 0, none⟩) 1 1, .slice (some ⟨w9.heap.size + 1 + 1, 0, none⟩) 1 1, .int .u64 2, .int .u64 0].toArray 27)).heap.size := by simp
    have hz9 := (((hz8.out.newBox (bxCells (spX u s FLB LRB)).toArray 48).newBox [.int .i64 1, .int .u64 1, .int .u64 1].toArray 67).newBox [.int .u64 1, .int .u64 4, .int .i64 1, .int .u64 1, .int .u64 1].toArray 69).newBox [.slice (some ⟨w9.heap.size, 0, none⟩) 1 1, .int .u64 4294967296, .slice (some ⟨w9.heap.size + 1, 0, none⟩) 1 1, .slice (some ⟨w9.heap.size + 1 + 1, 0, none⟩) 1 1, .int .u64 2, .int .u64 0].toArray 27
    rw [e3, e2, e1] at hz9
    change Code.wp _ _ _ _ ((((w9.alloc (.cells (bxCells (spX u s FLB LRB)).toArray 48)).alloc (.cells [.int .i64 1, .int .u64 1, .int .u64 1].toArray 67)).alloc (.cells [.int .u64 1, .int .u64 4, .int .i64 1, .int .u64 1, .int .u64 1].toArray 69)).alloc (.cells [.slice (some ⟨w9.heap.size, 0, none⟩) 1 1, .int .u64 4294967296, .slice (some ⟨w9.heap.size + 1, 0, none⟩) 1 1, .slice (some ⟨w9.heap.size + 1 + 1, 0, none⟩) 1 1, .int .u64 2, .int .u64 0].toArray 27))
    have hLs : LRB < w9.heap.size := by have := hs9.out; omega
    have hFs : FLB < w9.heap.size := by have := hF7.out; omega
    clear e1 e2 e3
    generalize ((((w9.alloc (.cells (bxCells (spX u s FLB LRB)).toArray 48)).alloc (.cells [.int .i64 1, .int .u64 1, .int .u64 1].toArray 67)).alloc (.cells [.int .u64 1, .int .u64 4, .int .i64 1, .int .u64 1, .int .u64 1].toArray 69)).alloc (.cells [.slice (some ⟨w9.heap.size, 0, none⟩) 1 1, .int .u64 4294967296, .slice (some ⟨w9.heap.size + 1, 0, none⟩) 1 1, .slice (some ⟨w9.heap.size + 1 + 1, 0, none⟩) 1 1, .int .u64 2, .int .u64 0].toArray 27)) = w10 at hz9 e4 ⊢
    generalize w9.heap.size = BB at hz9 e4 hLs hFs ⊢
    have hz10 : Hid (Zoo W w10 (spS u s FLB LRB BB ++ (boxT (LRB + 1) (bxCells (spX u s FLB LRB)).toArray 48 :: (spT FLB LRB ++ [boxT RB (rqCells q y).toArray 41])))) := Lib.hid hz9
    have hin : Hid (∀ w', Below w10.heap.size w10 w' → MlIn w' (.agg [.slice (some ⟨BB, 0, none⟩) 1 1, .int .u64 4294967296, .slice (some ⟨BB + 1, 0, none⟩) 1 1, .slice (some ⟨BB + 1 + 1, 0, none⟩) 1 1, .int .u64 2, .int .u64 0].toArray) (spM u s)) := Lib.hid (fun w' h => sp_in (hz10.out.below h) (by have := h.size; omega) (by have := h.size; omega) (by have := h.size; omega))
    clear hz9 hz8 hs9
    obtain ⟨hbM, -⟩ := hz10.out.box (B := BB + 1 + 1 + 1) (C := [.slice (some ⟨BB, 0, none⟩) 1 1, .int .u64 4294967296, .slice (some ⟨BB + 1, 0, none⟩) 1 1, .slice (some ⟨BB + 1 + 1, 0, none⟩) 1 1, .int .u64 2, .int .u64 0].toArray) (t := 27) 0 rfl
    obtain ⟨hbR, -⟩ := hz10.out.box (B := RB) (C := (rqCells q y).toArray) (t := 41) 7 rfl
    have x0 : w10.cell? ⟨BB + 1 + 1 + 1, 0, none⟩ = some (.slice (some ⟨BB, 0, none⟩) 1 1) := box_cell hbM 0
    have x1 : w10.cell? ⟨BB + 1 + 1 + 1, 1, none⟩ = some (.int .u64 4294967296) := box_cell hbM 1
    have x2 : w10.cell? ⟨BB + 1 + 1 + 1, 2, none⟩ = some (.slice (some ⟨BB + 1, 0, none⟩) 1 1) := box_cell hbM 2
    have x3 : w10.cell? ⟨BB + 1 + 1 + 1, 3, none⟩ = some (.slice (some ⟨BB + 1 + 1, 0, none⟩) 1 1) := box_cell hbM 3
    have x4 : w10.cell? ⟨BB + 1 + 1 + 1, 4, none⟩ = some (.int .u64 2) := box_cell hbM 4
    have x5 : w10.cell? ⟨BB + 1 + 1 + 1, 5, none⟩ = some (.int .u64 0) := box_cell hbM 5
    have hld := Lib.hid (fun j v (hj : (rqCells q y)[j]? = some v) => (show w10.cell? ⟨RB, 0 + j, none⟩ = some v by rw [Nat.zero_add, box_cell hbR j, List.getElem?_toArray]; exact hj))
    clear hbM hbR
    go_wp2_with (refine wpList_load_cells rfl 41 (.tmp 3) rfl RB 0 (rqCells q y) (by rfl) Tryz.isAgg41 Tryz.sizeOf41 hld.out ?_)
    clear hld
    have hsp := Lib.hid (sp_law u s q)
    have hr2 := Lib.hid (apply_right q (sp_right u s))
    have hcall := apply_any _ (hin.out w10 (Below.refl _ _)) (sp_right u s).ap (hq0.out w10 hz10.out.bel) hqo.out
    obtain ⟨⟨m2, o2⟩, hap⟩ : ∃ r, applyM (spM u s) q = r := ⟨_, rfl⟩
    rw [hap] at hcall
    replace hsp : Hid (Sp u s q.op (m2, o2)) := Lib.hid (by have := hsp.out; rw [hap] at this; exact this)
    replace hr2 : Hid (RightP m2) := Lib.hid (by have := hr2.out; rw [hap] at this; exact this)
    clear hap x0 x1 x2 x3 x4 x5
    refine hcall.mono ?_
    rintro e w11 ⟨vD, oD, rfl, hvD, hoD, hb11⟩
    dsimp only
    obtain ⟨ab2, cb2, nb2, ah2, ch2, as2, cs2, rfl⟩ := hvD.out.now.out_
    obtain ⟨aU2, cU2, aM2, cM2, rfl⟩ := hoD.out.now.out_
    obtain rfl : nb2 = 1 := hvD.out.now.nb.trans hsp.out.one
    go_upto_region 10 with fail
    have e1 : (w11.alloc (.cells [.slice ab2 1 cb2, .int .u64 m2.nv, .slice ah2 m2.homes.length ch2, .slice as2 m2.seats.length cs2, .int .u64 m2.ns, .int .u64 m2.sweeps].toArray 27)).heap.size = w11.heap.size + 1 := by simp
    have hz11 := ((hz10.out.below hb11.out).newBox [.slice ab2 1 cb2, .int .u64 m2.nv, .slice ah2 m2.homes.length ch2, .slice as2 m2.seats.length cs2, .int .u64 m2.ns, .int .u64 m2.sweeps].toArray 27).newBox [.int .i64 o2.code, .int .u64 o2.session, .int .u64 o2.validity, .slice aU2 o2.uids.length cU2, .slice aM2 o2.mods.length cM2].toArray 35
    rw [e1] at hz11
    have hb12 : Below w11.heap.size w11 ((w11.alloc (.cells [.slice ab2 1 cb2, .int .u64 m2.nv, .slice ah2 m2.homes.length ch2, .slice as2 m2.seats.length cs2, .int .u64 m2.ns, .int .u64 m2.sweeps].toArray 27)).alloc (.cells [.int .i64 o2.code, .int .u64 o2.session, .int .u64 o2.validity, .slice aU2 o2.uids.length cU2, .slice aM2 o2.mods.length cM2].toArray 35)) := ((Below.refl _ _).alloc (Nat.le_refl _) _).alloc (by simp) _
    change Code.wp _ _ _ _ ((w11.alloc (.cells [.slice ab2 1 cb2, .int .u64 m2.nv, .slice ah2 m2.homes.length ch2, .slice as2 m2.seats.length cs2, .int .u64 m2.ns, .int .u64 m2.sweeps].toArray 27)).alloc (.cells [.int .i64 o2.code, .int .u64 o2.session, .int .u64 o2.validity, .slice aU2 o2.uids.length cU2, .slice aM2 o2.mods.length cM2].toArray 35))
    have hinD := (hvD.out.below hb12)
    have hbd := hb11.out.trans (hb12.mono hb11.out.size)
    clear e1 hb12 hvD hoD hb11 hcall
    generalize ((w11.alloc (.cells [.slice ab2 1 cb2, .int .u64 m2.nv, .slice ah2 m2.homes.length ch2, .slice as2 m2.seats.length cs2, .int .u64 m2.ns, .int .u64 m2.sweeps].toArray 27)).alloc (.cells [.int .i64 o2.code, .int .u64 o2.session, .int .u64 o2.validity, .slice aU2 o2.uids.length cU2, .slice aM2 o2.mods.length cM2].toArray 35)) = w12 at hz11 hinD hbd ⊢
    generalize w11.heap.size = TB at hz11 ⊢
    have hz12 : Hid (Zoo W w12 (boxT (TB + 1) [.int .i64 o2.code, .int .u64 o2.session, .int .u64 o2.validity, .slice aU2 o2.uids.length cU2, .slice aM2 o2.mods.length cM2].toArray 35 :: boxT TB [.slice ab2 1 cb2, .int .u64 m2.nv, .slice ah2 m2.homes.length ch2, .slice as2 m2.seats.length cs2, .int .u64 m2.ns, .int .u64 m2.sweeps].toArray 27 :: (spS u s FLB LRB BB ++ (boxT (LRB + 1) (bxCells (spX u s FLB LRB)).toArray 48 :: (spT FLB LRB ++ [boxT RB (rqCells q y).toArray 41]))))) := Lib.hid hz11
    have hin2 : Hid (∀ w', Below w12.heap.size w12 w' → MlIn w' (.agg [.slice ab2 1 cb2, .int .u64 m2.nv, .slice ah2 m2.homes.length ch2, .slice as2 m2.seats.length cs2, .int .u64 m2.ns, .int .u64 m2.sweeps].toArray) m2) := Lib.hid (fun w' h => (hinD.below h).now)
    have hin1 : Hid (∀ w', Below w12.heap.size w12 w' → MlIn w' (.agg [.slice (some ⟨BB, 0, none⟩) 1 1, .int .u64 4294967296, .slice (some ⟨BB + 1, 0, none⟩) 1 1, .slice (some ⟨BB + 1 + 1, 0, none⟩) 1 1, .int .u64 2, .int .u64 0].toArray) (spM u s)) := Lib.hid (fun w' h => hin.out w' (hbd.trans (h.mono hbd.size)))
    have hLs12 := Nat.lt_of_lt_of_le hLs (show BB ≤ w12.heap.size by have := hbd.size; omega)
    have hFs12 := Nat.lt_of_lt_of_le hFs (show BB ≤ w12.heap.size by have := hbd.size; omega)
    replace hLs12 := Lib.hid hLs12
    replace hFs12 := Lib.hid hFs12
    clear hz11 hinD hbd hin hz10 hLs hFs e4
    obtain ⟨hbM, -⟩ := hz12.out.box (B := BB + 1 + 1 + 1) (C := [.slice (some ⟨BB, 0, none⟩) 1 1, .int .u64 4294967296, .slice (some ⟨BB + 1, 0, none⟩) 1 1, .slice (some ⟨BB + 1 + 1, 0, none⟩) 1 1, .int .u64 2, .int .u64 0].toArray) (t := 27) 2 rfl
    have x0 : w12.cell? ⟨BB + 1 + 1 + 1, 0, none⟩ = some (.slice (some ⟨BB, 0, none⟩) 1 1) := box_cell hbM 0
    have x1 : w12.cell? ⟨BB + 1 + 1 + 1, 1, none⟩ = some (.int .u64 4294967296) := box_cell hbM 1
    have x2 : w12.cell? ⟨BB + 1 + 1 + 1, 2, none⟩ = some (.slice (some ⟨BB + 1, 0, none⟩) 1 1) := box_cell hbM 2
    have x3 : w12.cell? ⟨BB + 1 + 1 + 1, 3, none⟩ = some (.slice (some ⟨BB + 1 + 1, 0, none⟩) 1 1) := box_cell hbM 3
    have x4 : w12.cell? ⟨BB + 1 + 1 + 1, 4, none⟩ = some (.int .u64 2) := box_cell hbM 4
    have x5 : w12.cell? ⟨BB + 1 + 1 + 1, 5, none⟩ = some (.int .u64 0) := box_cell hbM 5
    clear hbM
    go_wp2_with fail
    refine (right_yes _ (hin1.out w12 (Below.refl _ _)) (sp_right u s)).mono ?_
    rintro e w13 ⟨rfl, hb13⟩
    dsimp only
    clear x0 x1 x2 x3 x4 x5
    have hz13 := Lib.hid (hz12.out.below hb13.out)
    obtain ⟨hbT, -⟩ := hz13.out.box (B := TB) (C := [.slice ab2 1 cb2, .int .u64 m2.nv, .slice ah2 m2.homes.length ch2, .slice as2 m2.seats.length cs2, .int .u64 m2.ns, .int .u64 m2.sweeps].toArray) (t := 27) 1 rfl
    have t0 : w13.cell? ⟨TB, 0, none⟩ = some (.slice ab2 1 cb2) := box_cell hbT 0
    have t1 : w13.cell? ⟨TB, 1, none⟩ = some (.int .u64 m2.nv) := box_cell hbT 1
    have t2 : w13.cell? ⟨TB, 2, none⟩ = some (.slice ah2 m2.homes.length ch2) := box_cell hbT 2
    have t3 : w13.cell? ⟨TB, 3, none⟩ = some (.slice as2 m2.seats.length cs2) := box_cell hbT 3
    have t4 : w13.cell? ⟨TB, 4, none⟩ = some (.int .u64 m2.ns) := box_cell hbT 4
    have t5 : w13.cell? ⟨TB, 5, none⟩ = some (.int .u64 m2.sweeps) := box_cell hbT 5
    clear hbT
    go_wp2_with fail
    refine (right_yes _ (hin2.out w13 hb13.out) hr2.out).mono ?_
    rintro e w14 ⟨rfl, hb14⟩
    dsimp only
    clear t0 t1 t2 t3 t4 t5
    have hb24 := hb13.out.trans (hb14.out.mono hb13.out.size)
    have hz14 := Lib.hid (hz12.out.below hb24)
    obtain ⟨hbT, -⟩ := hz14.out.box (B := TB) (C := [.slice ab2 1 cb2, .int .u64 m2.nv, .slice ah2 m2.homes.length ch2, .slice as2 m2.seats.length cs2, .int .u64 m2.ns, .int .u64 m2.sweeps].toArray) (t := 27) 1 rfl
    obtain ⟨hbX, -⟩ := hz14.out.box (B := LRB + 1) (C := (bxCells (spX u s FLB LRB)).toArray) (t := 48) 6 rfl
    have t0 : w14.cell? ⟨TB, 0, none⟩ = some (.slice ab2 1 cb2) := box_cell hbT 0
    have hk0 : 0 < m2.boxes.length := by rw [hsp.out.one]; decide
    obtain ⟨xb, xo, z, e, hzb, hrow⟩ := (hin2.out w14 hb24).box_at hk0
    subst e
    simp only [Nat.zero_mul, Nat.add_zero] at hrow
    have hone : Hid (m2.boxes = [z.b]) := Lib.hid (by
      have h1 := hsp.out.one
      match hm : m2.boxes, h1 with
      | [b], _ =>
        rw [hzb]
        simp [hm])
    have hbz := hr2.out.boxes _ (List.getElem_mem hk0)
    rw [← hzb] at hbz
    have hrX : ∀ w', Below w14.heap.size w14 w' → LtsIn w' (.slice (some ⟨LRB, 0, none⟩) 2 2) (spRows FLB) := fun w' h => sp_read (A := boxT (TB + 1) [.int .i64 o2.code, .int .u64 o2.session, .int .u64 o2.validity, .slice aU2 o2.uids.length cU2, .slice aM2 o2.mods.length cM2].toArray 35 :: boxT TB [.slice (some ⟨xb, xo, none⟩) 1 cb2, .int .u64 m2.nv, .slice ah2 m2.homes.length ch2, .slice as2 m2.seats.length cs2, .int .u64 m2.ns, .int .u64 m2.sweeps].toArray 27 :: (spS u s FLB LRB BB ++ [boxT (LRB + 1) (bxCells (spX u s FLB LRB)).toArray 48])) (B := [boxT RB (rqCells q y).toArray 41]) (by
      have h2 := hz14.out.below h
      simpa only [List.cons_append, List.append_assoc, List.nil_append] using h2) (by have := hLs12.out; have := hb24.size; have := h.size; omega) (by have := hFs12.out; have := hb24.size; have := h.size; omega)
    have hcl : Hid (∀ w', Below w14.heap.size w14 w' → w'.cell? ⟨TB, 0, none⟩ = some (.slice (some ⟨xb, xo, none⟩) 1 cb2) ∧ w'.cell? ⟨xb, xo, none⟩ = some (.string z.name) ∧ w'.cell? ⟨xb, xo + 1, none⟩ = some (.int .u64 z.validity) ∧ w'.cell? ⟨xb, xo + 2, none⟩ = some (.int .u64 z.next) ∧ w'.cell? ⟨xb, xo + 3, none⟩ = some (.int .u64 z.high) ∧ w'.cell? ⟨xb, xo + 4, none⟩ = some (.slice z.a z.rows.length z.c) ∧ w'.cell? ⟨LRB + 1, 0, none⟩ = some (.string ⟨#[73, 78, 66, 79, 88]⟩) ∧ w'.cell? ⟨LRB + 1, 1, none⟩ = some (.int .u64 7) ∧ w'.cell? ⟨LRB + 1, 2, none⟩ = some (.int .u64 (spB u s).next) ∧ w'.cell? ⟨LRB + 1, 3, none⟩ = some (.int .u64 (spB u s).high) ∧ w'.cell? ⟨LRB + 1, 4, none⟩ = some (.slice (some ⟨LRB, 0, none⟩) 2 2)) := Lib.hid (fun w' h => ⟨box_cell (bel_heap h hbT) 0, (hrow w' h).1.1, (hrow w' h).1.2.1, (hrow w' h).1.2.2.1, (hrow w' h).1.2.2.2.1, (hrow w' h).1.2.2.2.2, box_cell (bel_heap h hbX) 0, box_cell (bel_heap h hbX) 1, box_cell (bel_heap h hbX) 2, box_cell (bel_heap h hbX) 3, box_cell (bel_heap h hbX) 4⟩)
    have hcall : Hid (∀ w', Below w14.heap.size w14 w' → Calls Tryz.prog 20 #[bxAgg z, bxAgg (spX u s FLB LRB)] w' (YesNo (z.b = spB u s) w')) := Lib.hid (fun w' h => by
      refine sameBox_any z (spX u s FLB LRB) (hrow w' h).2 (hrX w' h) ?_ (fun yy hyy => ?_)
      · have h1 := hbz.len
        have h2 : z.b.letters.length = z.rows.length := List.length_map ..
        omega
      · have := right_16 (hbz.lets yy.x (List.mem_map_of_mem (f := LtV.x) hyy)).fl
        omega)
    unfold bxAgg bxCells spX BxV.v at hcall
    dsimp only at hcall
    have hbd := (Below.refl w14.heap.size w14).drew
    clear hrow hbT hbX hrX hbz hzb hk0 hin1 hin2 hr2 hLs12 hFs12
    go_upto_region 12 with fail
    clear t0
    go_cut [11] (fun v11 wx => ∃ B, v11 = .bool B ∧ Hid (B = true ↔ m2.boxes = [spB u s]) ∧ Hid (Below w14.heap.size w14 wx))
    case first =>
      refine wp_region_hd (fun w' => w'.cell? ⟨TB, 0, none⟩ = some (.slice (some ⟨xb, xo, none⟩) 1 cb2) ∧ w'.cell? ⟨xb, xo, none⟩ = some (.string z.name) ∧ w'.cell? ⟨xb, xo + 1, none⟩ = some (.int .u64 z.validity) ∧ w'.cell? ⟨xb, xo + 2, none⟩ = some (.int .u64 z.next) ∧ w'.cell? ⟨xb, xo + 3, none⟩ = some (.int .u64 z.high) ∧ w'.cell? ⟨xb, xo + 4, none⟩ = some (.slice z.a z.rows.length z.c) ∧ w'.cell? ⟨LRB + 1, 0, none⟩ = some (.string ⟨#[73, 78, 66, 79, 88]⟩) ∧ w'.cell? ⟨LRB + 1, 1, none⟩ = some (.int .u64 7) ∧ w'.cell? ⟨LRB + 1, 2, none⟩ = some (.int .u64 (spB u s).next) ∧ w'.cell? ⟨LRB + 1, 3, none⟩ = some (.int .u64 (spB u s).high) ∧ w'.cell? ⟨LRB + 1, 4, none⟩ = some (.slice (some ⟨LRB, 0, none⟩) 2 2)) 6 1 (by kernel_rfl) rfl ⟨by kernel_rfl, by kernel_rfl, by kernel_rfl, by decide⟩ (hcl.out _ hbd) (fun hok hS0 => ?_)
      generalize w14.drew = Wd at *
      refine Hd.take (i := 0) (v := ?tv511) hok rfl (by kernel_rfl) (fun _ _ _ h => h) (Or.inl ⟨by rfl, ?ty511⟩) (by assumption) ?tr511
      case ty511 => (intro w hSw; (try dsimp only at hSw); go_simp; (try with_reducible rfl))
      try simp only [List.getElem_toArray, List.getElem_cons_succ, List.getElem_cons_zero, Act.put, List.setIfInBounds_toArray, List.set_cons_zero, List.set_cons_succ]
      refine Hd.take (i := 1) (v := ?tv512) hok rfl (by kernel_rfl) (fun _ _ _ h => h) (Or.inl ⟨by rfl, ?ty512⟩) (by assumption) ?tr512
      case ty512 => (intro w hSw; (try dsimp only at hSw); go_simp; (try with_reducible rfl))
      try simp only [List.getElem_toArray, List.getElem_cons_succ, List.getElem_cons_zero, Act.put, List.setIfInBounds_toArray, List.set_cons_zero, List.set_cons_succ]
      refine Hd.take (i := 2) (v := ?tv513) hok rfl (by kernel_rfl) (fun _ _ _ h => h) (Or.inl ⟨by rfl, ?ty513⟩) (by assumption) ?tr513
      case ty513 => (intro w hSw; (try dsimp only at hSw); go_simp; (try with_reducible rfl))
      try simp only [List.getElem_toArray, List.getElem_cons_succ, List.getElem_cons_zero, Act.put, List.setIfInBounds_toArray, List.set_cons_zero, List.set_cons_succ]
      refine Hd.take (i := 3) (v := ?tv514) hok rfl (by kernel_rfl) (fun _ _ _ h => h) (Or.inl ⟨by rfl, ?ty514⟩) (by assumption) ?tr514
      case ty514 => (intro w hSw; (try dsimp only at hSw); go_simp; (try with_reducible rfl))
      try simp only [List.getElem_toArray, List.getElem_cons_succ, List.getElem_cons_zero, Act.put, List.setIfInBounds_toArray, List.set_cons_zero, List.set_cons_succ]
      refine Hd.take (i := 4) (v := ?tv515) hok rfl (by kernel_rfl) (fun _ _ _ h => h) (Or.inl ⟨by rfl, ?ty515⟩) (by assumption) ?tr515
      case ty515 => (intro w hSw; (try dsimp only at hSw); go_simp; (try with_reducible rfl))
      try simp only [List.getElem_toArray, List.getElem_cons_succ, List.getElem_cons_zero, Act.put, List.setIfInBounds_toArray, List.set_cons_zero, List.set_cons_succ]
      refine Hd.one (i := 5) rfl (by kernel_rfl) (fun K hK => ?_)
      go_simp
      refine (hcall.out _ hbd).mono ?_
      rintro e w15 ⟨B, rfl, hB, hb15⟩
      dsimp only
      have hbd5 := hbd.trans (hb15.out.mono hbd.size)
      have hS1 := hcl.out _ hbd5
      refine hK _ _ hS1 ?_
      clear hK K hS0
      try simp only [List.getElem_toArray, List.getElem_cons_succ, List.getElem_cons_zero, Act.put, List.setIfInBounds_toArray, List.set_cons_zero, List.set_cons_succ]
      refine Hd.done (by kernel_rfl) ?_
      simp only [List.drop_succ_cons, List.drop_zero]
      have hBr : Hid (B = true ↔ m2.boxes = [spB u s]) := Lib.hid (by
        rw [hB.out, hone.out]
        exact ⟨fun h => by rw [h], fun h => by simpa using h⟩)
      replace hbd5 := Lib.hid hbd5
      clear hok hS1 hcl hcall hB hb15 hone hbd
      go_wp2_with fail
      go_meet
      case rel => exact ⟨B, rfl, hBr, hbd5⟩
    case rest =>
    obtain ⟨B, rfl, hB, hb15⟩ := hcut
    generalize wc = w15 at *
    clear hcl hcall hone hbd
    have hz15 := hz14.out.below hb15.out
    obtain ⟨hbO, -⟩ := hz15.box (B := TB + 1) (C := [.int .i64 o2.code, .int .u64 o2.session, .int .u64 o2.validity, .slice aU2 o2.uids.length cU2, .slice aM2 o2.mods.length cM2].toArray) (t := 35) 0 rfl
    obtain ⟨hbR, -⟩ := hz15.box (B := RB) (C := (rqCells q y).toArray) (t := 41) 9 rfl
    have c0 : w15.cell? ⟨RB, 0, none⟩ = some (.int .i64 q.op) := box_cell hbR 0
    have o0 : w15.cell? ⟨TB + 1, 0, none⟩ = some (.int .i64 o2.code) := box_cell hbO 0
    have o3 : w15.cell? ⟨TB + 1, 3, none⟩ = some (.slice aU2 o2.uids.length cU2) := box_cell hbO 3
    have hbF := Lib.hid hz15.bel
    clear hbO hbR hz15 hb15 hz14 hz13 hz12
    by_cases h4 : q.op = 4
    · have p4 : (q.op == 4) = true := by rw [h4]; rfl
      obtain ⟨g1, g2⟩ := hsp.out.cr h4
      have g3 : (o2.code != 0) = true := by rw [bne_iff_ne]; exact g2
      have g4 : (o2.code == 0) = false := by rw [beq_eq_false_iff_ne]; exact g2
      obtain rfl : B = true := hB.out.2 g1
      clear hsp hB
      go_wp2_with fail
      go_ret
      first | exact ⟨rfl, hbF.out⟩ | (rw [← hRB.out]; exact ⟨rfl, hbF.out⟩)
    have p4 : (q.op == 4) = false := by rw [beq_eq_false_iff_ne]; exact h4
    by_cases h6 : q.op = 6
    · have p6 : (q.op == 6) = true := by rw [h6]; rfl
      have hap2 := hsp.out.ap (by omega)
      cases u with
      | false =>
        cases s with
        | false =>
          clear hap2
          clear hsp hB
          go_wp2_with fail
          go_ret
          first | exact ⟨rfl, hbF.out⟩ | (rw [← hRB.out]; exact ⟨rfl, hbF.out⟩)
        | true =>
          obtain ⟨g1, g2⟩ := hap2 (.inr rfl)
          obtain rfl : B = true := hB.out.2 g1
          rw [g2] at o3
          clear hap2 g1 g2
          clear hsp hB
          go_wp2_with fail
          go_ret
          first | exact ⟨rfl, hbF.out⟩ | (rw [← hRB.out]; exact ⟨rfl, hbF.out⟩)
      | true =>
        obtain ⟨g1, g2⟩ := hap2 (.inl rfl)
        obtain rfl : B = true := hB.out.2 g1
        rw [g2] at o3
        clear hap2 g1 g2
        cases s with
        | false =>
          clear hsp hB
          go_wp2_with fail
          go_ret
          first | exact ⟨rfl, hbF.out⟩ | (rw [← hRB.out]; exact ⟨rfl, hbF.out⟩)
        | true =>
          clear hsp hB
          go_wp2_with fail
          go_ret
          first | exact ⟨rfl, hbF.out⟩ | (rw [← hRB.out]; exact ⟨rfl, hbF.out⟩)
    have p6 : (q.op == 6) = false := by rw [beq_eq_false_iff_ne]; exact h6
    by_cases h9 : q.op = 9
    · have p9 : (q.op == 9) = true := by rw [h9]; rfl
      have hap2 := hsp.out.ap (by omega)
      cases u with
      | false =>
        cases s with
        | false =>
          clear hap2
          clear hsp hB
          go_wp2_with fail
          go_ret
          first | exact ⟨rfl, hbF.out⟩ | (rw [← hRB.out]; exact ⟨rfl, hbF.out⟩)
        | true =>
          obtain ⟨g1, g2⟩ := hap2 (.inr rfl)
          obtain rfl : B = true := hB.out.2 g1
          rw [g2] at o3
          clear hap2 g1 g2
          clear hsp hB
          go_wp2_with fail
          go_ret
          first | exact ⟨rfl, hbF.out⟩ | (rw [← hRB.out]; exact ⟨rfl, hbF.out⟩)
      | true =>
        obtain ⟨g1, g2⟩ := hap2 (.inl rfl)
        obtain rfl : B = true := hB.out.2 g1
        rw [g2] at o3
        clear hap2 g1 g2
        cases s with
        | false =>
          clear hsp hB
          go_wp2_with fail
          go_ret
          first | exact ⟨rfl, hbF.out⟩ | (rw [← hRB.out]; exact ⟨rfl, hbF.out⟩)
        | true =>
          clear hsp hB
          go_wp2_with fail
          go_ret
          first | exact ⟨rfl, hbF.out⟩ | (rw [← hRB.out]; exact ⟨rfl, hbF.out⟩)
    have p9 : (q.op == 9) = false := by rw [beq_eq_false_iff_ne]; exact h9
    by_cases h7 : q.op = 7
    · have p7 : (q.op == 7) = true := by rw [h7]; rfl
      cases s with
      | false => 
        clear hsp hB
        go_wp2_with fail
        go_ret
        first | exact ⟨rfl, hbF.out⟩ | (rw [← hRB.out]; exact ⟨rfl, hbF.out⟩)
      | true =>
        obtain ⟨g1, -⟩ := hsp.out.st (.inl h7) rfl
        obtain rfl : B = true := hB.out.2 g1
        cases g4 : (o2.code == 0) with
        | false =>
          have g3 : (o2.code != 0) = true := by simpa [bne] using g4
          clear hsp hB
          go_wp2_with fail
          go_ret
          first | exact ⟨rfl, hbF.out⟩ | (rw [← hRB.out]; exact ⟨rfl, hbF.out⟩)
        | true =>
          have g3 : (o2.code != 0) = false := by simpa [bne] using g4
          clear hsp hB
          go_wp2_with fail
          go_ret
          first | exact ⟨rfl, hbF.out⟩ | (rw [← hRB.out]; exact ⟨rfl, hbF.out⟩)
    have p7 : (q.op == 7) = false := by rw [beq_eq_false_iff_ne]; exact h7
    by_cases h8 : q.op = 8
    · have p8 : (q.op == 8) = true := by rw [h8]; rfl
      cases s with
      | false => 
        clear hsp hB
        go_wp2_with fail
        go_ret
        first | exact ⟨rfl, hbF.out⟩ | (rw [← hRB.out]; exact ⟨rfl, hbF.out⟩)
      | true =>
        obtain ⟨g1, g2⟩ := hsp.out.st (.inr h8) rfl
        obtain rfl : B = true := hB.out.2 g1
        cases g4 : (o2.code == 0) with
        | false =>
          have g3 : (o2.code != 0) = true := by simpa [bne] using g4
          clear hsp hB
          go_wp2_with fail
          go_ret
          first | exact ⟨rfl, hbF.out⟩ | (rw [← hRB.out]; exact ⟨rfl, hbF.out⟩)
        | true =>
          have g3 : (o2.code != 0) = false := by simpa [bne] using g4
          have g5 : o2.uids = [] := by
            rcases g2 with g | g | g
            · exact absurd (eq_of_beq g4) g
            · exact absurd g h7
            · exact g
          rw [g5] at o3
          clear hsp hB
          go_wp2_with fail
          go_ret
          first | exact ⟨rfl, hbF.out⟩ | (rw [← hRB.out]; exact ⟨rfl, hbF.out⟩)
    have p8 : (q.op == 8) = false := by rw [beq_eq_false_iff_ne]; exact h8
    obtain rfl : B = true := hB.out.2 (hsp.out.el h4 h6 h7 h8 h9)
    clear hsp hB
    go_wp2_with fail
    go_ret
    first | exact ⟨rfl, hbF.out⟩ | (rw [← hRB.out]; exact ⟨rfl, hbF.out⟩)
end Go.Proofs.YtdobbfjmlnlieaaGreat
