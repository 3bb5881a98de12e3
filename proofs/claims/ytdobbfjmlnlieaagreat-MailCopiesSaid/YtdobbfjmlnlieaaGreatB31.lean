/- MailSpent: walked. -/
import Derived.Test.YtdobbfjmlnlieaaGreatB19
import Derived.Test.YtdobbfjmlnlieaaGreatB27
import Derived.Test.YtdobbfjmlnlieaaGreatB25
import Derived.Test.YtdobbfjmlnlieaaGreatB30
import Derived.Test.YtdobbfjmlnlieaaGreatB22
import Derived.Great.BuildSlice
namespace Go.Proofs.YtdobbfjmlnlieaaGreat
set_option linter.unusedSimpArgs false
open Go.RowKit
attribute [local go_sem ↓] Go.wp_at_zero Go.wp_at_succ

theorem wpList_load_cells_w {P : Program} {ops : Array Oper} {o : Oper} {rest : List Oper} {a : Act} {w : World} {Q : Exit → Act → World → Prop} (hw : Region.wanted o (yielded ops a.tmps) = true) (t : TypeId) (x : Operand) (ho : o.op = .load t x) (b off : Nat) (cs : List Value) (hx : a.eval x = .pointer (some ⟨b, off, none⟩)) (hagg : ∀ w, (isAgg t).run P w = .ok true w) (hsz : ∀ w, (Go.sizeOf t).run P w = .ok cs.length w) (h : ∀ j v, cs[j]? = some v → w.cell? ⟨b, off + j, none⟩ = some v)
    (hK : wpList P ops Q rest (a.put o.dst (.agg cs.toArray)) w) : wpList P ops Q (o :: rest) a w :=
  BigFrame.wpList_want hw fun K hK' => by
    have h1 := exec_load_cells (P := P) (ρ := a.eval) t x ho b off cs hx hagg hsz w h
    unfold Oper.wp
    simp only [h1, Result.andThen]
    exact hK' _ _ hK
theorem fill_rq (q : Rq) (y : RqV) : Instr.fill (fun i => some (i * 17, 17)) ((Array.range (1 * 17)).map (rqT.z.cells[· % rqT.z.cells.size]!)) [(0, .agg (rqCells q y).toArray)] = some (rqCells q y).toArray := by kernel_rfl
theorem wpList_rq1 {ops : Array Oper} {rest : List Oper} {o : Oper} {a : Act} {w : World} {Q : Exit → Act → World → Prop} {q : Rq} {y : RqV} (hw : Region.wanted o (yielded ops a.tmps) = true) (x : Operand) (ho : o.op = .buildSlice 28 1 #[(0, x)]) (hx : a.eval x = .agg (rqCells q y).toArray)
    (h : wpList Tryz.prog ops Q rest (a.put o.dst (.slice (some ⟨w.heap.size, 0, none⟩) 1 1)) (w.alloc (.cells (rqCells q y).toArray 41))) : wpList Tryz.prog ops Q (o :: rest) a w := by
  obtain ⟨ie, h1, hi⟩ := Option.map_eq_some_iff.1 rqT.info
  have h2 : ie.size = 17 := congrArg (fun z => z.2.1) hi
  have h3 : ie.zero = some rqT.z := congrArg (fun z => z.1) hi
  refine BigFrame.wpList_want hw fun _ hK => wp_buildSlice 28 41 1 #[(0, x)] ho (rqCells q y).toArray ie rqT.z Tryz.underlying28 h1 h3 (by rw [h2]; decide) (by rw [h2]; decide) ?_ (hK _ _ h)
  rw [h2]
  exact Eq.trans (congrArg (Instr.fill _ _) (show _ = [(0, Value.agg (rqCells q y).toArray)] from by simp [hx])) (fill_rq q y)
/-- the letters of the mailbox -/
def spRows (FLB : Nat) : List LtV := [⟨⟨3, [delL], 2, h1B, 0⟩, some ⟨FLB, 0, none⟩, 1⟩, ⟨⟨8, [], 9, h2B, 0⟩, none, 0⟩]
def spX (u s : Bool) (FLB LRB : Nat) : BxV := ⟨inB, 7, (spB u s).next, (spB u s).high, spRows FLB, some ⟨LRB, 0, none⟩, 2⟩
def spT (FLB LRB : Nat) : List Th := [boxT LRB (ltT.cells (spRows FLB)).toArray 50, boxT FLB #[.string ⟨#[92, 68, 101, 108, 101, 116, 101, 100]⟩] 9]
/-- the state, and where it lies -/
def spS (u s : Bool) (FLB LRB BB : Nat) : List Th := [boxT (BB + 1 + 1 + 1) [.slice (some ⟨BB, 0, none⟩) 1 1, .int .u64 4294967296, .slice (some ⟨BB + 1, 0, none⟩) 1 1, .slice (some ⟨BB + 1 + 1, 0, none⟩) 1 1, .int .u64 2, .int .u64 0].toArray 27, boxT (BB + 1 + 1) [.int .u64 1, .int .u64 4, .int .i64 1, .int .u64 1, .int .u64 1].toArray 69, boxT (BB + 1) [.int .i64 1, .int .u64 1, .int .u64 1].toArray 67, boxT BB (bxCells (spX u s FLB LRB)).toArray 48]
end Go.Proofs.YtdobbfjmlnlieaaGreat
