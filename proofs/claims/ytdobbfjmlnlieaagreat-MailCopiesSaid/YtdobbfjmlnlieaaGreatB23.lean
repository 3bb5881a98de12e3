/- alive: walked. -/
import Derived.Test.YtdobbfjmlnlieaaGreatB22
namespace Go.Proofs.YtdobbfjmlnlieaaGreat
set_option linter.unusedSimpArgs false
open Go.RowKit
attribute [local go_sem ↓] Go.wp_at_zero Go.wp_at_succ

theorem apply_lit {w : World} {m m' : Ml} {o : Oc} {q : Rq} (v : Value) (hin : MlIn w v m) (hm : ApSt m) (hq : RqOk q) (h1 : q.flags = []) (h2 : q.uids = []) (h : applyM m q = (m', o)) : Calls Tryz.prog 15 #[v, .agg (rqCells q y0).toArray] w (ApRet w (m', o)) := by
  have := apply_any v hin hm (rqIn_lit w q h1 h2) hq
  rw [h] at this
  exact this
theorem OcIn.out_ {W : World} {v : Value} {o : Oc} (h : OcIn W v o) : ∃ aU cU aM cM, v = .agg #[.int .i64 o.code, .int .u64 o.session, .int .u64 o.validity, .slice aU o.uids.length cU, .slice aM o.mods.length cM] := by
  obtain ⟨aU, cU, aM, cM, rfl, -⟩ := h
  exact ⟨_, _, _, _, rfl⟩
theorem al_one6 (a : Option Addr) (b c : Nat) (d : Nat) (e : Option Addr) (f g : Nat) (h : Option Addr) (i j : Nat) (k l : Nat) : ∀ v ∈ ([.slice a b c, .int .u64 (d : Int), .slice e f g, .slice h i j, .int .u64 (k : Int), .int .u64 (l : Int)] : List Value), v.oneCell' = true := fun v hv => by
  simp only [List.mem_cons, List.not_mem_nil, or_false] at hv
  rcases hv with rfl | rfl | rfl | rfl | rfl | rfl <;> rfl
theorem al_one5 (a b c : Int) (d : Option Addr) (f : Nat) (g : Option Addr) (h : Nat) {n n2 : Nat} : ∀ v ∈ ([.int .i64 a, .int .u64 b, .int .u64 c, .slice d n f, .slice g n2 h] : List Value), v.oneCell' = true := fun v hv => by
  simp only [List.mem_cons, List.not_mem_nil, or_false] at hv
  rcases hv with rfl | rfl | rfl | rfl | rfl <;> rfl
theorem Stay.sets {ok : Nat → Prop} {w : World} {P : World → Prop} (h : Stay ok w P) (B : Nat) (C : List Value) (hB : ∀ k, ok k → k < w.heap.size → k ≠ B) : Stay ok (w.setCells B 0 C) P := by
  have k := KeptB.sets C 0 (KeptB.refl w B)
  exact h.on (Nat.le_of_eq k.size.symm) (fun j hj hl => k.block j (hB j hj hl))
/-- a store of many cells, met by itself -/
theorem wp_store_op {P : Program} {ops : Array Oper} {o : Oper} {a : Act} {w : World} {Q : Exit → Act → World → Prop} {K : Act → World → Prop} (hgd : o.guard = none) (t : TypeId) (x u : Operand) (ho : o.op = .store t x u) (b off : Nat) (cs : List Value) (hx : a.eval x = .pointer (some ⟨b, off, none⟩)) (hu : a.eval u = .agg cs.toArray) (hsz : ∀ w, (Go.sizeOf t).run P w = .ok cs.length w) (h1 : ∀ v ∈ cs, v.oneCell' = true) (hc : ∀ j, j < cs.length → (w.cell? ⟨b, off + j, none⟩).isSome = true) (hf : ∀ j, w.frozen? ⟨b, j, none⟩ = false)
    (hK : K (a.put o.dst undef) (w.setCells b off cs)) : if Region.wanted o (yielded ops a.tmps) = true then Oper.wp P o a w K Q else K (a.put o.dst undef) w := by
  rw [if_pos (by simp [Region.wanted, hgd])]
  obtain ⟨n, h2, rfl⟩ := exec_store_cells (P := P) (ρ := a.eval) t x u ho b off cs hx hu hsz h1 w hc hf
  unfold Oper.wp
  simp only [h2, Result.andThen]
  exact hK
/-- what an Apply of alive leaves -/
def AlR (w2 w5 : World) (a b : Th) (TB : Nat) (m : Ml) (o : Oc) (QB : Nat) (wx : World) : Prop := ∃ C O : List Value, Zoo w2 wx [boxT QB O.toArray 35, a, b, boxT TB C.toArray 27] ∧ Stay (fun k => w5.heap.size ≤ k) wx (fun x => MlIn x (.agg C.toArray) m) ∧ Stay (fun k => w5.heap.size ≤ k) wx (fun x => OcIn x (.agg O.toArray) o) ∧ w5.heap.size ≤ wx.heap.size
theorem AlR.fin {w2 w5 w9 : World} {a b : Th} {TB QB : Nat} {m : Ml} {o : Oc} {Z C O : List Value} (hz : Zoo w2 w9 [boxT QB Z.toArray 35, a, b, boxT TB C.toArray 27]) (hv : Stay (fun k => w5.heap.size ≤ k ∧ k ≠ QB) w9 (fun x => MlIn x (.agg C.toArray) m)) (ho : Stay (fun k => w5.heap.size ≤ k ∧ k ≠ QB) w9 (fun x => OcIn x (.agg O.toArray) o)) (hs : w5.heap.size ≤ w9.heap.size) (h2 : O.length = Z.length) : AlR w2 w5 a b TB m o QB (w9.setCells QB 0 O) := by
  have k := KeptB.sets O 0 (KeptB.refl w9 QB)
  exact ⟨C, O, hz.fillBox 0 rfl O h2, (hv.sets QB O (fun k hk _ => hk.2)).weak (fun k _ h => h.1), (ho.sets QB O (fun k hk _ => hk.2)).weak (fun k _ h => h.1), by rw [k.size]; exact hs⟩
theorem fdA {W : World} {v : Value} (hin : MlIn W v mlC) : Calls Tryz.prog 19 #[v, .string ⟨#[97]⟩] W fun e w' => ∃ b bo c, e = .returned (.tuple #[.agg #[.string ⟨#[97]⟩, .int .u64 2, .int .u64 2, .int .u64 2, .slice (some ⟨b, bo, none⟩) 1 c], .bool true]) ∧ Hid (b < w'.heap.size ∧ w'.cell? ⟨b, bo + 3, none⟩ = some (.string (mkB (hashL 1)))) ∧ Hid (Below W.heap.size W w') := by
  refine (find_any v mlC W hin stC.sz aBx).mono ?_
  rintro e w' ⟨z, rfl, hzb, hl, hb⟩
  replace hzb := hzb.out
  rw [fdC] at hzb ⊢
  obtain ⟨nm, va, nx, hg, rows, a, c⟩ := z
  unfold BxV.b at hzb
  dsimp only [Option.getD] at hzb
  injection hzb with e1 e2 e3 e4 e5
  subst e1 e2 e3 e4
  obtain ⟨y, rfl⟩ : ∃ y, rows = [y] := List.length_eq_one_iff.1 (by have := congrArg List.length e5; rw [List.length_map] at this; exact this)
  · have hy : y.x = ⟨1, [], 2, h1B, 3⟩ := by simpa using e5
    obtain ⟨b, bo, cap, hv, -, hbl, hc⟩ := ltT.rd_cells hl.out.1 (show 0 < [y].length from Nat.zero_lt_one)
    unfold BxV.v at hv
    injection hv with h1 h2 h3
    dsimp only at h1 h3
    subst h1 h3
    refine ⟨b, bo, c, rfl, Lib.hid ⟨hbl, ?_⟩, hb⟩
    have := hc 3 (.string y.x.hash) rfl
    rw [hy] at this
    exact this
theorem bel_heap {w w' : World} (h : Below w.heap.size w w') {B : Nat} {o : Obj} (ho : w.heap[B]? = some o) : w'.heap[B]? = some o := (h.block B (Array.getElem?_eq_some_iff.1 ho).1).trans ho
theorem apD' : ∃ mD, applyM mlC rqC = (mD, ⟨14, 0, 0, [], []⟩) := ⟨_, Prod.ext rfl apD⟩
def Al4 (w2 w6 : World) (q p o t : Th) (AB : Nat) (wx : World) : Prop := ∃ aU cU aM cM, Zoo w2 wx [boxT AB [.int .i64 14, .int .u64 0, .int .u64 0, .slice aU 0 cU, .slice aM 0 cM].toArray 35, q, p, o, t] ∧ Below w6.heap.size w6 wx
theorem bel_sets {n : Nat} {a w : World} (h : Below n a w) (B : Nat) (C : List Value) (hB : n ≤ B) : Below n a (w.setCells B 0 C) := by
  have k := KeptB.sets C 0 (KeptB.refl w B)
  exact ⟨k.os.trans h.os, k.tape.trans h.tape, k.output.trans h.output, by rw [k.size]; exact h.size, fun i hi => (k.block i (by omega)).trans (h.block i hi)⟩
set_option maxRecDepth 100000 in
set_option maxHeartbeats 16000000 in
theorem alive_any (W : World) : Calls Tryz.prog 11 #[] W fun e w' => e = .returned (.bool true) ∧ Hid (Below W.heap.size W w') := by
  go_enter Tryz.func11, Tryz.ntmps11
  go_wp2_with (go_at_call 29; refine (newS_any _).mono ?_; rintro e w1 ⟨v1, rfl, hv1, hb1⟩)
  refine (apply_lit v1 hv1.out.now stN okA rfl rfl apA).mono ?_
  rintro e w2 ⟨vA, oA, rfl, hvA, hoA, hb2⟩
  obtain ⟨ab, cb, nb, ah, ch, as_, cs, rfl⟩ := hvA.out.now.out_
  obtain ⟨aU, cU, aM, cM, rfl⟩ := hoA.out.now.out_
  dsimp only
  go_upto_region 2 with fail
  have hz3 := ((Zoo.nil w2).newBox [.slice ab nb cb, .int .u64 (mlA.nv : Int), .slice ah mlA.homes.length ch, .slice as_ mlA.seats.length cs, .int .u64 (mlA.ns : Int), .int .u64 (mlA.sweeps : Int)].toArray 27).newBox [.int .i64 0, .int .u64 1, .int .u64 0, .slice aU 0 cU, .slice aM 0 cM].toArray 35
  rw [show (w2.alloc (.cells [.slice ab nb cb, .int .u64 (mlA.nv : Int), .slice ah mlA.homes.length ch, .slice as_ mlA.seats.length cs, .int .u64 (mlA.ns : Int), .int .u64 (mlA.sweeps : Int)].toArray 27)).heap.size = w2.heap.size + 1 from by simp] at hz3
  have hlt : w2.heap.size + 1 < ((w2.alloc (.cells [.slice ab nb cb, .int .u64 (mlA.nv : Int), .slice ah mlA.homes.length ch, .slice as_ mlA.seats.length cs, .int .u64 (mlA.ns : Int), .int .u64 (mlA.sweeps : Int)].toArray 27)).alloc (.cells [.int .i64 0, .int .u64 1, .int .u64 0, .slice aU 0 cU, .slice aM 0 cM].toArray 35)).heap.size := by simp
  generalize ((w2.alloc (.cells [.slice ab nb cb, .int .u64 (mlA.nv : Int), .slice ah mlA.homes.length ch, .slice as_ mlA.seats.length cs, .int .u64 (mlA.ns : Int), .int .u64 (mlA.sweeps : Int)].toArray 27)).alloc (.cells [.int .i64 0, .int .u64 1, .int .u64 0, .slice aU 0 cU, .slice aM 0 cM].toArray 35)) = w3 at *
  generalize hTB : w2.heap.size = TB at *
  replace hTB := Lib.hid hTB
  replace hz3 := Lib.hid hz3
  obtain ⟨hbT, -⟩ := hz3.out.box 1 rfl
  have x0 : w3.cell? ⟨TB, 0, none⟩ = some (.slice ab nb cb) := box_cell hbT 0
  have x1 : w3.cell? ⟨TB, 1, none⟩ = some (.int .u64 (mlA.nv : Int)) := box_cell hbT 1
  have x2 : w3.cell? ⟨TB, 2, none⟩ = some (.slice ah mlA.homes.length ch) := box_cell hbT 2
  have x3 : w3.cell? ⟨TB, 3, none⟩ = some (.slice as_ mlA.seats.length cs) := box_cell hbT 3
  have x4 : w3.cell? ⟨TB, 4, none⟩ = some (.int .u64 (mlA.ns : Int)) := box_cell hbT 4
  have x5 : w3.cell? ⟨TB, 5, none⟩ = some (.int .u64 (mlA.sweeps : Int)) := box_cell hbT 5
  clear hbT
  go_wp2_with fail
  refine (apply_lit _ (hvA.out.below (by have := hz3.out.bel; exact this)).now stA okB rfl rfl apB).mono ?_
  rintro e w4 ⟨vB, oB, rfl, hvB, hoB, hb4⟩
  obtain ⟨ab2, cb2, nb2, ah2, ch2, as2, cs2, rfl⟩ := hvB.out.now.out_
  obtain ⟨aU2, cU2, aM2, cM2, rfl⟩ := hoB.out.now.out_
  dsimp only
  clear x0 x1 x2 x3 x4 x5
  have hz4 := Lib.hid (hz3.out.below hb4.out)
  obtain ⟨hbT, -⟩ := hz4.out.box 1 rfl
  have x0 : w4.cell? ⟨TB, 0, none⟩ = some (.slice ab nb cb) := box_cell hbT 0
  have fx0 : w4.frozen? ⟨TB, 0, none⟩ = false := box_free hbT 0
  have x1 : w4.cell? ⟨TB, 1, none⟩ = some (.int .u64 (mlA.nv : Int)) := box_cell hbT 1
  have fx1 : w4.frozen? ⟨TB, 1, none⟩ = false := box_free hbT 1
  have x2 : w4.cell? ⟨TB, 2, none⟩ = some (.slice ah mlA.homes.length ch) := box_cell hbT 2
  have fx2 : w4.frozen? ⟨TB, 2, none⟩ = false := box_free hbT 2
  have x3 : w4.cell? ⟨TB, 3, none⟩ = some (.slice as_ mlA.seats.length cs) := box_cell hbT 3
  have fx3 : w4.frozen? ⟨TB, 3, none⟩ = false := box_free hbT 3
  have x4 : w4.cell? ⟨TB, 4, none⟩ = some (.int .u64 (mlA.ns : Int)) := box_cell hbT 4
  have fx4 : w4.frozen? ⟨TB, 4, none⟩ = false := box_free hbT 4
  have x5 : w4.cell? ⟨TB, 5, none⟩ = some (.int .u64 (mlA.sweeps : Int)) := box_cell hbT 5
  have fx5 : w4.frozen? ⟨TB, 5, none⟩ = false := box_free hbT 5
  clear hbT
  have hTl : TB < w4.heap.size := by have := hb4.out.size; omega
  have hTn : TB ≠ w4.heap.size := by omega
  go_upto_region 3 with fail
  clear x0 x1 x2 x3 x4 x5 fx0 fx1 fx2 fx3 fx4 fx5
  have hkF := KeptB.sets [.slice ab2 nb2 cb2, .int .u64 (mlB.nv : Int), .slice ah2 mlB.homes.length ch2, .slice as2 mlB.seats.length cs2, .int .u64 (mlB.ns : Int), .int .u64 (mlB.sweeps : Int)] 0 (KeptB.refl w4 TB)
  have hz5 := (hz4.out.fillBox (C := [.slice ab nb cb, .int .u64 (mlA.nv : Int), .slice ah mlA.homes.length ch, .slice as_ mlA.seats.length cs, .int .u64 (mlA.ns : Int), .int .u64 (mlA.sweeps : Int)]) 1 rfl [.slice ab2 nb2 cb2, .int .u64 (mlB.nv : Int), .slice ah2 mlB.homes.length ch2, .slice as2 mlB.seats.length cs2, .int .u64 (mlB.ns : Int), .int .u64 (mlB.sweeps : Int)] rfl).newBox [.int .i64 0, .int .u64 0, .int .u64 2, .slice aU2 0 cU2, .slice aM2 0 cM2].toArray 35
  rw [hkF.size] at hz5
  have hvB5 := (hvB.out.on (w' := w4.setCells TB 0 [.slice ab2 nb2 cb2, .int .u64 (mlB.nv : Int), .slice ah2 mlB.homes.length ch2, .slice as2 mlB.seats.length cs2, .int .u64 (mlB.ns : Int), .int .u64 (mlB.sweeps : Int)]) (Nat.le_of_eq hkF.size.symm) (fun k hk _ => hkF.block k (by have h : w3.heap.size ≤ k := hk; omega))).below ((Below.refl _ _).alloc (Nat.le_refl _) (.cells [.int .i64 0, .int .u64 0, .int .u64 2, .slice aU2 0 cU2, .slice aM2 0 cM2].toArray 35))
  have hl5 : w4.heap.size < ((w4.setCells TB 0 [.slice ab2 nb2 cb2, .int .u64 (mlB.nv : Int), .slice ah2 mlB.homes.length ch2, .slice as2 mlB.seats.length cs2, .int .u64 (mlB.ns : Int), .int .u64 (mlB.sweeps : Int)]).alloc (.cells [.int .i64 0, .int .u64 0, .int .u64 2, .slice aU2 0 cU2, .slice aM2 0 cM2].toArray 35)).heap.size := by simp [hkF.size]
  simp only [World.setCells, Nat.zero_add] at hz5 hvB5 hl5
  generalize (((((((w4.setCell ⟨TB, 0, none⟩ (.slice ab2 nb2 cb2)).setCell ⟨TB, 1, none⟩ (.int .u64 (mlB.nv : Int))).setCell ⟨TB, 2, none⟩ (.slice ah2 mlB.homes.length ch2)).setCell ⟨TB, 3, none⟩ (.slice as2 mlB.seats.length cs2)).setCell ⟨TB, 4, none⟩ (.int .u64 (mlB.ns : Int))).setCell ⟨TB, 5, none⟩ (.int .u64 (mlB.sweeps : Int))).alloc (.cells [.int .i64 0, .int .u64 0, .int .u64 2, .slice aU2 0 cU2, .slice aM2 0 cM2].toArray 35)) = w5 at *
  generalize hPB : w4.heap.size = PB at *
  replace hPB := Lib.hid hPB
  replace hz5 := Lib.hid hz5
  replace hvB5 := Lib.hid hvB5
  clear hkF
  have hl5T : TB < w5.heap.size := by omega
  go_cut [4] (fun v4 wx => ∃ QB, v4 = .pointer (some ⟨QB, 0, none⟩) ∧ Hid (AlR w2 w5 (boxT PB [.int .i64 0, .int .u64 0, .int .u64 2, .slice aU2 0 cU2, .slice aM2 0 cM2].toArray 35) (boxT (TB + 1) [.int .i64 0, .int .u64 1, .int .u64 0, .slice aU 0 cU, .slice aM 0 cM].toArray 35) TB mlC ⟨0, 0, 2, [1], []⟩ QB wx))
  case first =>
    have hzd := hz5.out.drew
    have hvd := hvB5.out.below ((Below.refl _ _).drew)
    have hld : w5.heap.size ≤ w5.drew.heap.size := Nat.le_refl _
    have hSn := Lib.hid (hzd.box 2 rfl).1
    refine wp_region_hdP 8 (fun b w' => Hid (b = false → w'.heap[TB]? = some (.cells [.slice ab2 nb2 cb2, .int .u64 (mlB.nv : Int), .slice ah2 mlB.homes.length ch2, .slice as2 mlB.seats.length cs2, .int .u64 (mlB.ns : Int), .int .u64 (mlB.sweeps : Int)].toArray 27 (0, 0)))) 9 1 (by kernel_rfl) rfl ⟨by kernel_rfl, by kernel_rfl⟩ (Lib.hid fun _ => hSn.out) (fun hok hS0 => ?_)
    clear hS0
    generalize w5.drew = Wd at *
    refine HdP.take (i := 0) (v := .agg [.slice ab2 nb2 cb2, .int .u64 (mlB.nv : Int), .slice ah2 mlB.homes.length ch2, .slice as2 mlB.seats.length cs2, .int .u64 (mlB.ns : Int), .int .u64 (mlB.sweeps : Int)].toArray) hok rfl (by kernel_rfl) (fun _ _ _ h => h) (by decide) (yields_load_cells 27 (.tmp 1) rfl TB 0 [.slice ab2 nb2 cb2, .int .u64 (mlB.nv : Int), .slice ah2 mlB.homes.length ch2, .slice as2 mlB.seats.length cs2, .int .u64 (mlB.ns : Int), .int .u64 (mlB.sweeps : Int)] (by rfl) Tryz.isAgg27 Tryz.sizeOf27 rfl (fun W hS j v hj => by rw [Nat.zero_add, box_cell ((hS.early (by kernel_rfl)).out rfl) j, List.getElem?_toArray]; exact hj)) (Lib.hid fun _ => hSn.out) ?_
    try simp only [List.getElem_toArray, List.getElem_cons_succ, List.getElem_cons_zero, Act.put, List.setIfInBounds_toArray, List.set_cons_zero, List.set_cons_succ]
    refine HdP.two (i := 1) (k := 7) rfl rfl (by kernel_rfl) (fun K hK => ?_) (fun K hK => ?_)
    · go_simp
      refine (hash_any _).mono ?_
      rintro e w1_ ⟨rfl, hb_w1_⟩
      dsimp only
      have hz_w1_ := hzd.below hb_w1_.out
      have hl_w1_ := Nat.le_trans hld hb_w1_.out.size
      have hv_w1_ := hvd.below hb_w1_.out
      have hSn := Lib.hid (hz_w1_.box 2 rfl).1
      refine hK _ _ (Lib.hid fun _ => hSn.out) ?_
      clear hK K
      try simp only [List.getElem_toArray, List.getElem_cons_succ, List.getElem_cons_zero, Act.put, List.setIfInBounds_toArray, List.set_cons_zero, List.set_cons_succ]
      refine HdP.take (i := 2) (v := ?tv332) hok rfl (by kernel_rfl) (fun _ _ _ h => h) (by decide) (Or.inl ⟨by rfl, ?ty332⟩) (Lib.hid fun _ => hSn.out) ?tr332
      case ty332 => (intro w hSw; clear hSw; go_simp; (try with_reducible rfl))
      try simp only [List.getElem_toArray, List.getElem_cons_succ, List.getElem_cons_zero, Act.put, List.setIfInBounds_toArray, List.set_cons_zero, List.set_cons_succ]
      refine HdP.two (i := 3) (k := 7) rfl rfl (by kernel_rfl) (fun K hK => ?_) (fun K hK => ?_)
      · go_simp
        refine (apply_lit _ hv_w1_.now stB okC rfl rfl apC).mono ?_
        rintro e w2_ ⟨vC, oC, rfl, hvC, hoC, hb_w2_⟩
        dsimp only
        obtain ⟨ab3, cb3, nb3, ah3, ch3, as3, cs3, rfl⟩ := hvC.out.now.out_
        obtain ⟨aU3, cU3, aM3, cM3, rfl⟩ := hoC.out.now.out_
        have hz_w2_ := hz_w1_.below hb_w2_.out
        have hl_w2_ := Nat.le_trans hl_w1_ hb_w2_.out.size
        have vC_w2_ := hvC.out
        have oC_w2_ := hoC.out
        clear hvC hoC
        have hSn := Lib.hid (hz_w2_.box 2 rfl).1
        refine hK _ _ (Lib.hid fun _ => hSn.out) ?_
        clear hK K
        try simp only [List.getElem_toArray, List.getElem_cons_succ, List.getElem_cons_zero, Act.put, List.setIfInBounds_toArray, List.set_cons_zero, List.set_cons_succ]
        refine HdP.take (i := 4) (v := ?tv333) hok rfl (by kernel_rfl) (fun _ _ _ h => h) (by decide) (Or.inl ⟨by rfl, ?ty333⟩) (Lib.hid fun _ => hSn.out) ?tr333
        case ty333 => (intro w hSw; clear hSw; go_simp; (try with_reducible rfl))
        try simp only [List.getElem_toArray, List.getElem_cons_succ, List.getElem_cons_zero, Act.put, List.setIfInBounds_toArray, List.set_cons_zero, List.set_cons_succ]
        refine HdP.take (i := 5) (v := ?tv334) hok rfl (by kernel_rfl) (fun _ _ _ h => h) (by decide) (Or.inl ⟨by rfl, ?ty334⟩) (Lib.hid fun _ => hSn.out) ?tr334
        case ty334 => (intro w hSw; clear hSw; go_simp; (try with_reducible rfl))
        try simp only [List.getElem_toArray, List.getElem_cons_succ, List.getElem_cons_zero, Act.put, List.setIfInBounds_toArray, List.set_cons_zero, List.set_cons_succ]
        refine HdP.take (i := 6) (v := ?tv335) hok rfl (by kernel_rfl) (fun _ _ _ h => h) (by decide) (Or.inl ⟨by rfl, ?ty335⟩) (Lib.hid fun _ => hSn.out) ?tr335
        case ty335 => (intro w hSw; clear hSw; go_simp; (try with_reducible rfl))
        try simp only [List.getElem_toArray, List.getElem_cons_succ, List.getElem_cons_zero, Act.put, List.setIfInBounds_toArray, List.set_cons_zero, List.set_cons_succ]
        refine HdP.one (i := 7) rfl (by kernel_rfl) (fun K hK => ?_)
        go_simp
        have hz_w3_ := hz_w2_.newBox [.int .i64 0, .int .u64 0, .int .u64 0, .slice none 0 0, .slice none 0 0].toArray 35
        have hb_w3_ : Below _ w2_ _ := ((Below.refl _ _).alloc (Nat.le_refl _) (.cells [.int .i64 0, .int .u64 0, .int .u64 0, .slice none 0 0, .slice none 0 0].toArray 35))
        have hl_w3_ := Nat.le_trans hl_w2_ hb_w3_.size
        have hq_w3_ : w2_.heap.size < (w2_.alloc (.cells [.int .i64 0, .int .u64 0, .int .u64 0, .slice none 0 0, .slice none 0 0].toArray 35)).heap.size := by simp
        have vC_w3_ := (vC_w2_.weak (ok2 := fun k => w5.heap.size ≤ k ∧ k ≠ w2_.heap.size) (fun k hk h => by have h1 : w1_.heap.size ≤ k := h; have h2 := hl_w1_; exact ⟨by omega, by omega⟩)).below hb_w3_
        have oC_w3_ := (oC_w2_.weak (ok2 := fun k => w5.heap.size ≤ k ∧ k ≠ w2_.heap.size) (fun k hk h => by have h1 : w1_.heap.size ≤ k := h; have h2 := hl_w1_; exact ⟨by omega, by omega⟩)).below hb_w3_
        have hSn := Lib.hid (hz_w3_.box 3 rfl).1
        refine hK _ _ (Lib.hid fun _ => hSn.out) ?_
        clear hK K
        try simp only [List.getElem_toArray, List.getElem_cons_succ, List.getElem_cons_zero, Act.put, List.setIfInBounds_toArray, List.set_cons_zero, List.set_cons_succ]
        refine HdP.one (i := 8) rfl (by kernel_rfl) (fun K hK => ?_)
        have hs_w4_ := hz_w3_.boxSome (C := [.slice ab2 nb2 cb2, .int .u64 (mlB.nv : Int), .slice ah2 mlB.homes.length ch2, .slice as2 mlB.seats.length cs2, .int .u64 (mlB.ns : Int), .int .u64 (mlB.sweeps : Int)]) 3 rfl
        refine wp_store_op rfl 27 (.tmp 1) (.tmp 26) rfl TB 0 [.slice ab3 nb3 cb3, .int .u64 (mlC.nv : Int), .slice ah3 mlC.homes.length ch3, .slice as3 mlC.seats.length cs3, .int .u64 (mlC.ns : Int), .int .u64 (mlC.sweeps : Int)] rfl rfl Tryz.sizeOf27 (al_one6 _ _ _ _ _ _ _ _ _ _ _ _) hs_w4_.1 hs_w4_.2 ?_
        have hz_w4_ := hz_w3_.fillBox (C := [.slice ab2 nb2 cb2, .int .u64 (mlB.nv : Int), .slice ah2 mlB.homes.length ch2, .slice as2 mlB.seats.length cs2, .int .u64 (mlB.ns : Int), .int .u64 (mlB.sweeps : Int)]) 3 rfl [.slice ab3 nb3 cb3, .int .u64 (mlC.nv : Int), .slice ah3 mlC.homes.length ch3, .slice as3 mlC.seats.length cs3, .int .u64 (mlC.ns : Int), .int .u64 (mlC.sweeps : Int)] rfl
        have hsz_w4_ := (KeptB.sets [.slice ab3 nb3 cb3, .int .u64 (mlC.nv : Int), .slice ah3 mlC.homes.length ch3, .slice as3 mlC.seats.length cs3, .int .u64 (mlC.ns : Int), .int .u64 (mlC.sweeps : Int)] 0 (KeptB.refl (w2_.alloc (.cells [.int .i64 0, .int .u64 0, .int .u64 0, .slice none 0 0, .slice none 0 0].toArray 35)) TB)).size
        have hl_w4_ := Nat.le_trans hl_w3_ (Nat.le_of_eq hsz_w4_.symm)
        have vC_w4_ := vC_w3_.sets TB [.slice ab3 nb3 cb3, .int .u64 (mlC.nv : Int), .slice ah3 mlC.homes.length ch3, .slice as3 mlC.seats.length cs3, .int .u64 (mlC.ns : Int), .int .u64 (mlC.sweeps : Int)] (fun k hk _ => by have h1 : w5.heap.size ≤ k := hk.1; omega)
        have oC_w4_ := oC_w3_.sets TB [.slice ab3 nb3 cb3, .int .u64 (mlC.nv : Int), .slice ah3 mlC.homes.length ch3, .slice as3 mlC.seats.length cs3, .int .u64 (mlC.ns : Int), .int .u64 (mlC.sweeps : Int)] (fun k hk _ => by have h1 : w5.heap.size ≤ k := hk.1; omega)
        refine hK _ _ (Lib.hid fun h => Bool.noConfusion (h.symm.trans (by kernel_rfl : _ = true))) ?_
        clear hK K
        try simp only [List.getElem_toArray, List.getElem_cons_succ, List.getElem_cons_zero, Act.put, List.setIfInBounds_toArray, List.set_cons_zero, List.set_cons_succ]
        refine HdP.done (by kernel_rfl) ?_
        simp only [List.drop_succ_cons, List.drop_zero]
        have hs1 := hz_w4_.boxSome (C := [.int .i64 0, .int .u64 0, .int .u64 0, .slice none 0 0, .slice none 0 0]) 0 rfl
        refine wpList_store_cells rfl 35 (.tmp 4) (.tmp 27) rfl (w2_.heap.size) 0 [.int .i64 0, .int .u64 0, .int .u64 2, .slice aU3 1 cU3, .slice aM3 0 cM3] rfl rfl Tryz.sizeOf35 (al_one5 _ _ _ _ _ _ _) hs1.1 hs1.2 ?_
        have hrel := Lib.hid (AlR.fin (Z := [.int .i64 0, .int .u64 0, .int .u64 0, .slice none 0 0, .slice none 0 0]) (O := [.int .i64 0, .int .u64 0, .int .u64 2, .slice aU3 1 cU3, .slice aM3 0 cM3]) hz_w4_ (vC_w4_.weak (fun _ _ h => h)) (oC_w4_.weak (fun _ _ h => h)) hl_w4_ rfl)
        clear hs1
        go_wp2_with fail
        go_meet
        case rel => exact ⟨w2_.heap.size, rfl, hrel⟩
      · go_simp
        have hz_w5_ := hz_w1_.newBox [.int .i64 0, .int .u64 0, .int .u64 0, .slice none 0 0, .slice none 0 0].toArray 35
        have hb_w5_ : Below _ w1_ _ := ((Below.refl _ _).alloc (Nat.le_refl _) (.cells [.int .i64 0, .int .u64 0, .int .u64 0, .slice none 0 0, .slice none 0 0].toArray 35))
        have hl_w5_ := Nat.le_trans hl_w1_ hb_w5_.size
        have hq_w5_ : w1_.heap.size < (w1_.alloc (.cells [.int .i64 0, .int .u64 0, .int .u64 0, .slice none 0 0, .slice none 0 0].toArray 35)).heap.size := by simp
        have hv_w5_ := hv_w1_.below hb_w5_
        have hSn := Lib.hid (hz_w5_.box 3 rfl).1
        refine hK _ _ (Lib.hid fun _ => hSn.out) ?_
        clear hK K
        try simp only [List.getElem_toArray, List.getElem_cons_succ, List.getElem_cons_zero, Act.put, List.setIfInBounds_toArray, List.set_cons_zero, List.set_cons_succ]
        refine HdP.one (i := 3) rfl (by kernel_rfl) (fun K hK => ?_)
        go_simp
        refine (apply_lit _ hv_w5_.now stB okC rfl rfl apC).mono ?_
        rintro e w6_ ⟨vC, oC, rfl, hvC, hoC, hb_w6_⟩
        dsimp only
        obtain ⟨ab3, cb3, nb3, ah3, ch3, as3, cs3, rfl⟩ := hvC.out.now.out_
        obtain ⟨aU3, cU3, aM3, cM3, rfl⟩ := hoC.out.now.out_
        have hz_w6_ := hz_w5_.below hb_w6_.out
        have hl_w6_ := Nat.le_trans hl_w5_ hb_w6_.out.size
        have vC_w6_ := hvC.out
        have oC_w6_ := hoC.out
        clear hvC hoC
        have hSn := Lib.hid (hz_w6_.box 3 rfl).1
        refine hK _ _ (Lib.hid fun _ => hSn.out) ?_
        clear hK K
        try simp only [List.getElem_toArray, List.getElem_cons_succ, List.getElem_cons_zero, Act.put, List.setIfInBounds_toArray, List.set_cons_zero, List.set_cons_succ]
        refine HdP.take (i := 4) (v := ?tv336) hok rfl (by kernel_rfl) (fun _ _ _ h => h) (by decide) (Or.inl ⟨by rfl, ?ty336⟩) (Lib.hid fun _ => hSn.out) ?tr336
        case ty336 => (intro w hSw; clear hSw; go_simp; (try with_reducible rfl))
        try simp only [List.getElem_toArray, List.getElem_cons_succ, List.getElem_cons_zero, Act.put, List.setIfInBounds_toArray, List.set_cons_zero, List.set_cons_succ]
        refine HdP.take (i := 5) (v := ?tv337) hok rfl (by kernel_rfl) (fun _ _ _ h => h) (by decide) (Or.inl ⟨by rfl, ?ty337⟩) (Lib.hid fun _ => hSn.out) ?tr337
        case ty337 => (intro w hSw; clear hSw; go_simp; (try with_reducible rfl))
        try simp only [List.getElem_toArray, List.getElem_cons_succ, List.getElem_cons_zero, Act.put, List.setIfInBounds_toArray, List.set_cons_zero, List.set_cons_succ]
        refine HdP.take (i := 6) (v := ?tv338) hok rfl (by kernel_rfl) (fun _ _ _ h => h) (by decide) (Or.inl ⟨by rfl, ?ty338⟩) (Lib.hid fun _ => hSn.out) ?tr338
        case ty338 => (intro w hSw; clear hSw; go_simp; (try with_reducible rfl))
        try simp only [List.getElem_toArray, List.getElem_cons_succ, List.getElem_cons_zero, Act.put, List.setIfInBounds_toArray, List.set_cons_zero, List.set_cons_succ]
        refine HdP.one (i := 8) rfl (by kernel_rfl) (fun K hK => ?_)
        have hs_w7_ := hz_w6_.boxSome (C := [.slice ab2 nb2 cb2, .int .u64 (mlB.nv : Int), .slice ah2 mlB.homes.length ch2, .slice as2 mlB.seats.length cs2, .int .u64 (mlB.ns : Int), .int .u64 (mlB.sweeps : Int)]) 3 rfl
        refine wp_store_op rfl 27 (.tmp 1) (.tmp 26) rfl TB 0 [.slice ab3 nb3 cb3, .int .u64 (mlC.nv : Int), .slice ah3 mlC.homes.length ch3, .slice as3 mlC.seats.length cs3, .int .u64 (mlC.ns : Int), .int .u64 (mlC.sweeps : Int)] rfl rfl Tryz.sizeOf27 (al_one6 _ _ _ _ _ _ _ _ _ _ _ _) hs_w7_.1 hs_w7_.2 ?_
        have hz_w7_ := hz_w6_.fillBox (C := [.slice ab2 nb2 cb2, .int .u64 (mlB.nv : Int), .slice ah2 mlB.homes.length ch2, .slice as2 mlB.seats.length cs2, .int .u64 (mlB.ns : Int), .int .u64 (mlB.sweeps : Int)]) 3 rfl [.slice ab3 nb3 cb3, .int .u64 (mlC.nv : Int), .slice ah3 mlC.homes.length ch3, .slice as3 mlC.seats.length cs3, .int .u64 (mlC.ns : Int), .int .u64 (mlC.sweeps : Int)] rfl
        have hsz_w7_ := (KeptB.sets [.slice ab3 nb3 cb3, .int .u64 (mlC.nv : Int), .slice ah3 mlC.homes.length ch3, .slice as3 mlC.seats.length cs3, .int .u64 (mlC.ns : Int), .int .u64 (mlC.sweeps : Int)] 0 (KeptB.refl w6_ TB)).size
        have hl_w7_ := Nat.le_trans hl_w6_ (Nat.le_of_eq hsz_w7_.symm)
        have vC_w7_ := vC_w6_.sets TB [.slice ab3 nb3 cb3, .int .u64 (mlC.nv : Int), .slice ah3 mlC.homes.length ch3, .slice as3 mlC.seats.length cs3, .int .u64 (mlC.ns : Int), .int .u64 (mlC.sweeps : Int)] (fun k hk _ => by have h1 : (w1_.alloc (.cells [.int .i64 0, .int .u64 0, .int .u64 0, .slice none 0 0, .slice none 0 0].toArray 35)).heap.size ≤ k := hk; have h2 := hl_w5_; omega)
        have oC_w7_ := oC_w6_.sets TB [.slice ab3 nb3 cb3, .int .u64 (mlC.nv : Int), .slice ah3 mlC.homes.length ch3, .slice as3 mlC.seats.length cs3, .int .u64 (mlC.ns : Int), .int .u64 (mlC.sweeps : Int)] (fun k hk _ => by have h1 : (w1_.alloc (.cells [.int .i64 0, .int .u64 0, .int .u64 0, .slice none 0 0, .slice none 0 0].toArray 35)).heap.size ≤ k := hk; have h2 := hl_w5_; omega)
        refine hK _ _ (Lib.hid fun h => Bool.noConfusion (h.symm.trans (by kernel_rfl : _ = true))) ?_
        clear hK K
        try simp only [List.getElem_toArray, List.getElem_cons_succ, List.getElem_cons_zero, Act.put, List.setIfInBounds_toArray, List.set_cons_zero, List.set_cons_succ]
        refine HdP.done (by kernel_rfl) ?_
        simp only [List.drop_succ_cons, List.drop_zero]
        have hs1 := hz_w7_.boxSome (C := [.int .i64 0, .int .u64 0, .int .u64 0, .slice none 0 0, .slice none 0 0]) 0 rfl
        refine wpList_store_cells rfl 35 (.tmp 4) (.tmp 27) rfl (w1_.heap.size) 0 [.int .i64 0, .int .u64 0, .int .u64 2, .slice aU3 1 cU3, .slice aM3 0 cM3] rfl rfl Tryz.sizeOf35 (al_one5 _ _ _ _ _ _ _) hs1.1 hs1.2 ?_
        have hrel := Lib.hid (AlR.fin (Z := [.int .i64 0, .int .u64 0, .int .u64 0, .slice none 0 0, .slice none 0 0]) (O := [.int .i64 0, .int .u64 0, .int .u64 2, .slice aU3 1 cU3, .slice aM3 0 cM3]) hz_w7_ (vC_w7_.weak (fun k _ hk => by have h1 : (w1_.alloc (.cells [.int .i64 0, .int .u64 0, .int .u64 0, .slice none 0 0, .slice none 0 0].toArray 35)).heap.size ≤ k := hk; have h2 := hl_w5_; have h3 := hq_w5_; exact ⟨by omega, by omega⟩)) (oC_w7_.weak (fun k _ hk => by have h1 : (w1_.alloc (.cells [.int .i64 0, .int .u64 0, .int .u64 0, .slice none 0 0, .slice none 0 0].toArray 35)).heap.size ≤ k := hk; have h2 := hl_w5_; have h3 := hq_w5_; exact ⟨by omega, by omega⟩)) hl_w7_ rfl)
        clear hs1
        go_wp2_with fail
        go_meet
        case rel => exact ⟨w1_.heap.size, rfl, hrel⟩
    · go_simp
      have hz_w8_ := hzd.newBox [.int .i64 0, .int .u64 0, .int .u64 0, .slice none 0 0, .slice none 0 0].toArray 35
      have hb_w8_ : Below _ Wd _ := ((Below.refl _ _).alloc (Nat.le_refl _) (.cells [.int .i64 0, .int .u64 0, .int .u64 0, .slice none 0 0, .slice none 0 0].toArray 35))
      have hl_w8_ := Nat.le_trans hld hb_w8_.size
      have hq_w8_ : Wd.heap.size < (Wd.alloc (.cells [.int .i64 0, .int .u64 0, .int .u64 0, .slice none 0 0, .slice none 0 0].toArray 35)).heap.size := by simp
      have hv_w8_ := hvd.below hb_w8_
      have hSn := Lib.hid (hz_w8_.box 3 rfl).1
      refine hK _ _ (Lib.hid fun _ => hSn.out) ?_
      clear hK K
      try simp only [List.getElem_toArray, List.getElem_cons_succ, List.getElem_cons_zero, Act.put, List.setIfInBounds_toArray, List.set_cons_zero, List.set_cons_succ]
      refine HdP.one (i := 1) rfl (by kernel_rfl) (fun K hK => ?_)
      go_simp
      refine (hash_any _).mono ?_
      rintro e w9_ ⟨rfl, hb_w9_⟩
      dsimp only
      have hz_w9_ := hz_w8_.below hb_w9_.out
      have hl_w9_ := Nat.le_trans hl_w8_ hb_w9_.out.size
      have hv_w9_ := hv_w8_.below hb_w9_.out
      have hSn := Lib.hid (hz_w9_.box 3 rfl).1
      refine hK _ _ (Lib.hid fun _ => hSn.out) ?_
      clear hK K
      try simp only [List.getElem_toArray, List.getElem_cons_succ, List.getElem_cons_zero, Act.put, List.setIfInBounds_toArray, List.set_cons_zero, List.set_cons_succ]
      refine HdP.take (i := 2) (v := ?tv339) hok rfl (by kernel_rfl) (fun _ _ _ h => h) (by decide) (Or.inl ⟨by rfl, ?ty339⟩) (Lib.hid fun _ => hSn.out) ?tr339
      case ty339 => (intro w hSw; clear hSw; go_simp; (try with_reducible rfl))
      try simp only [List.getElem_toArray, List.getElem_cons_succ, List.getElem_cons_zero, Act.put, List.setIfInBounds_toArray, List.set_cons_zero, List.set_cons_succ]
      refine HdP.one (i := 3) rfl (by kernel_rfl) (fun K hK => ?_)
      go_simp
      refine (apply_lit _ hv_w9_.now stB okC rfl rfl apC).mono ?_
      rintro e w10_ ⟨vC, oC, rfl, hvC, hoC, hb_w10_⟩
      dsimp only
      obtain ⟨ab3, cb3, nb3, ah3, ch3, as3, cs3, rfl⟩ := hvC.out.now.out_
      obtain ⟨aU3, cU3, aM3, cM3, rfl⟩ := hoC.out.now.out_
      have hz_w10_ := hz_w9_.below hb_w10_.out
      have hl_w10_ := Nat.le_trans hl_w9_ hb_w10_.out.size
      have vC_w10_ := hvC.out
      have oC_w10_ := hoC.out
      clear hvC hoC
      have hSn := Lib.hid (hz_w10_.box 3 rfl).1
      refine hK _ _ (Lib.hid fun _ => hSn.out) ?_
      clear hK K
      try simp only [List.getElem_toArray, List.getElem_cons_succ, List.getElem_cons_zero, Act.put, List.setIfInBounds_toArray, List.set_cons_zero, List.set_cons_succ]
      refine HdP.take (i := 4) (v := ?tv340) hok rfl (by kernel_rfl) (fun _ _ _ h => h) (by decide) (Or.inl ⟨by rfl, ?ty340⟩) (Lib.hid fun _ => hSn.out) ?tr340
      case ty340 => (intro w hSw; clear hSw; go_simp; (try with_reducible rfl))
      try simp only [List.getElem_toArray, List.getElem_cons_succ, List.getElem_cons_zero, Act.put, List.setIfInBounds_toArray, List.set_cons_zero, List.set_cons_succ]
      refine HdP.take (i := 5) (v := ?tv341) hok rfl (by kernel_rfl) (fun _ _ _ h => h) (by decide) (Or.inl ⟨by rfl, ?ty341⟩) (Lib.hid fun _ => hSn.out) ?tr341
      case ty341 => (intro w hSw; clear hSw; go_simp; (try with_reducible rfl))
      try simp only [List.getElem_toArray, List.getElem_cons_succ, List.getElem_cons_zero, Act.put, List.setIfInBounds_toArray, List.set_cons_zero, List.set_cons_succ]
      refine HdP.take (i := 6) (v := ?tv342) hok rfl (by kernel_rfl) (fun _ _ _ h => h) (by decide) (Or.inl ⟨by rfl, ?ty342⟩) (Lib.hid fun _ => hSn.out) ?tr342
      case ty342 => (intro w hSw; clear hSw; go_simp; (try with_reducible rfl))
      try simp only [List.getElem_toArray, List.getElem_cons_succ, List.getElem_cons_zero, Act.put, List.setIfInBounds_toArray, List.set_cons_zero, List.set_cons_succ]
      refine HdP.one (i := 8) rfl (by kernel_rfl) (fun K hK => ?_)
      have hs_w11_ := hz_w10_.boxSome (C := [.slice ab2 nb2 cb2, .int .u64 (mlB.nv : Int), .slice ah2 mlB.homes.length ch2, .slice as2 mlB.seats.length cs2, .int .u64 (mlB.ns : Int), .int .u64 (mlB.sweeps : Int)]) 3 rfl
      refine wp_store_op rfl 27 (.tmp 1) (.tmp 26) rfl TB 0 [.slice ab3 nb3 cb3, .int .u64 (mlC.nv : Int), .slice ah3 mlC.homes.length ch3, .slice as3 mlC.seats.length cs3, .int .u64 (mlC.ns : Int), .int .u64 (mlC.sweeps : Int)] rfl rfl Tryz.sizeOf27 (al_one6 _ _ _ _ _ _ _ _ _ _ _ _) hs_w11_.1 hs_w11_.2 ?_
      have hz_w11_ := hz_w10_.fillBox (C := [.slice ab2 nb2 cb2, .int .u64 (mlB.nv : Int), .slice ah2 mlB.homes.length ch2, .slice as2 mlB.seats.length cs2, .int .u64 (mlB.ns : Int), .int .u64 (mlB.sweeps : Int)]) 3 rfl [.slice ab3 nb3 cb3, .int .u64 (mlC.nv : Int), .slice ah3 mlC.homes.length ch3, .slice as3 mlC.seats.length cs3, .int .u64 (mlC.ns : Int), .int .u64 (mlC.sweeps : Int)] rfl
      have hsz_w11_ := (KeptB.sets [.slice ab3 nb3 cb3, .int .u64 (mlC.nv : Int), .slice ah3 mlC.homes.length ch3, .slice as3 mlC.seats.length cs3, .int .u64 (mlC.ns : Int), .int .u64 (mlC.sweeps : Int)] 0 (KeptB.refl w10_ TB)).size
      have hl_w11_ := Nat.le_trans hl_w10_ (Nat.le_of_eq hsz_w11_.symm)
      have vC_w11_ := vC_w10_.sets TB [.slice ab3 nb3 cb3, .int .u64 (mlC.nv : Int), .slice ah3 mlC.homes.length ch3, .slice as3 mlC.seats.length cs3, .int .u64 (mlC.ns : Int), .int .u64 (mlC.sweeps : Int)] (fun k hk _ => by have h1 : w9_.heap.size ≤ k := hk; have h2 := hl_w9_; omega)
      have oC_w11_ := oC_w10_.sets TB [.slice ab3 nb3 cb3, .int .u64 (mlC.nv : Int), .slice ah3 mlC.homes.length ch3, .slice as3 mlC.seats.length cs3, .int .u64 (mlC.ns : Int), .int .u64 (mlC.sweeps : Int)] (fun k hk _ => by have h1 : w9_.heap.size ≤ k := hk; have h2 := hl_w9_; omega)
      refine hK _ _ (Lib.hid fun h => Bool.noConfusion (h.symm.trans (by kernel_rfl : _ = true))) ?_
      clear hK K
      try simp only [List.getElem_toArray, List.getElem_cons_succ, List.getElem_cons_zero, Act.put, List.setIfInBounds_toArray, List.set_cons_zero, List.set_cons_succ]
      refine HdP.done (by kernel_rfl) ?_
      simp only [List.drop_succ_cons, List.drop_zero]
      have hs1 := hz_w11_.boxSome (C := [.int .i64 0, .int .u64 0, .int .u64 0, .slice none 0 0, .slice none 0 0]) 0 rfl
      refine wpList_store_cells rfl 35 (.tmp 4) (.tmp 27) rfl (Wd.heap.size) 0 [.int .i64 0, .int .u64 0, .int .u64 2, .slice aU3 1 cU3, .slice aM3 0 cM3] rfl rfl Tryz.sizeOf35 (al_one5 _ _ _ _ _ _ _) hs1.1 hs1.2 ?_
      have hrel := Lib.hid (AlR.fin (Z := [.int .i64 0, .int .u64 0, .int .u64 0, .slice none 0 0, .slice none 0 0]) (O := [.int .i64 0, .int .u64 0, .int .u64 2, .slice aU3 1 cU3, .slice aM3 0 cM3]) hz_w11_ (vC_w11_.weak (fun k _ hk => by have h1 : w9_.heap.size ≤ k := hk; have h2 := hl_w9_; have h3 := (Nat.lt_of_lt_of_le hq_w8_ hb_w9_.out.size); exact ⟨by omega, by omega⟩)) (oC_w11_.weak (fun k _ hk => by have h1 : w9_.heap.size ≤ k := hk; have h2 := hl_w9_; have h3 := (Nat.lt_of_lt_of_le hq_w8_ hb_w9_.out.size); exact ⟨by omega, by omega⟩)) hl_w11_ rfl)
      clear hs1
      go_wp2_with fail
      go_meet
      case rel => exact ⟨Wd.heap.size, rfl, hrel⟩
  case rest =>
  obtain ⟨QB, rfl, hA⟩ := hcut
  clear hz5 hvB5 hl5 hvB hoB hvA hoA hz4 hz3
  obtain ⟨C0, O0, hz6, hv6, ho6, hl6⟩ := hA.out
  clear hA
  generalize wc = w6 at *
  obtain ⟨ab3, cb3, nb3, ah3, ch3, as3, cs3, e1⟩ := hv6.now.out_
  obtain ⟨aU3, cU3, aM3, cM3, e2⟩ := ho6.now.out_
  obtain rfl : C0 = [.slice ab3 nb3 cb3, .int .u64 (mlC.nv : Int), .slice ah3 mlC.homes.length ch3, .slice as3 mlC.seats.length cs3, .int .u64 (mlC.ns : Int), .int .u64 (mlC.sweeps : Int)] := by injection e1 with e1; exact congrArg Array.toList e1
  obtain rfl : O0 = [.int .i64 0, .int .u64 0, .int .u64 2, .slice aU3 1 cU3, .slice aM3 0 cM3] := by injection e2 with e2; exact congrArg Array.toList e2
  clear e1 e2
  replace hz6 := Lib.hid hz6
  replace hv6 := Lib.hid hv6
  replace ho6 := Lib.hid ho6
  obtain ⟨mD, hmD⟩ := apD'
  replace hmD := Lib.hid hmD
  go_upto_region 4 with fail
  go_cut [6] (fun v6 wx => ∃ AB, v6 = .pointer (some ⟨AB, 0, none⟩) ∧ Hid (Al4 w2 w6 (boxT QB [.int .i64 0, .int .u64 0, .int .u64 2, .slice aU3 1 cU3, .slice aM3 0 cM3].toArray 35) (boxT PB [.int .i64 0, .int .u64 0, .int .u64 2, .slice aU2 0 cU2, .slice aM2 0 cM2].toArray 35) (boxT (TB + 1) [.int .i64 0, .int .u64 1, .int .u64 0, .slice aU 0 cU, .slice aM 0 cM].toArray 35) (boxT TB [.slice ab3 nb3 cb3, .int .u64 (mlC.nv : Int), .slice ah3 mlC.homes.length ch3, .slice as3 mlC.seats.length cs3, .int .u64 (mlC.ns : Int), .int .u64 (mlC.sweeps : Int)].toArray 27) AB wx))
  case first =>
    have hzd := hz6.out.drew
    have hvd := hv6.out.below ((Below.refl _ _).drew)
    have hld : w6.heap.size ≤ w6.drew.heap.size := Nat.le_refl _
    have hSn := Lib.hid (hzd.box 3 rfl).1
    refine wp_region_hd (fun w' => Hid (w'.heap[TB]? = some (.cells [.slice ab3 nb3 cb3, .int .u64 (mlC.nv : Int), .slice ah3 mlC.homes.length ch3, .slice as3 mlC.seats.length cs3, .int .u64 (mlC.ns : Int), .int .u64 (mlC.sweeps : Int)].toArray 27 (0, 0)))) 10 1 (by kernel_rfl) rfl ⟨by kernel_rfl, by kernel_rfl, by kernel_rfl, by decide⟩ hSn (fun hok hS0 => ?_)
    clear hS0
    have hbd := (Below.refl w6.heap.size w6).drew
    generalize w6.drew = Wd at *
    refine Hd.take (i := 0) (v := .agg [.slice ab3 nb3 cb3, .int .u64 (mlC.nv : Int), .slice ah3 mlC.homes.length ch3, .slice as3 mlC.seats.length cs3, .int .u64 (mlC.ns : Int), .int .u64 (mlC.sweeps : Int)].toArray) hok rfl (by kernel_rfl) (fun _ _ _ h => h) (yields_load_cells 27 (.tmp 1) rfl TB 0 [.slice ab3 nb3 cb3, .int .u64 (mlC.nv : Int), .slice ah3 mlC.homes.length ch3, .slice as3 mlC.seats.length cs3, .int .u64 (mlC.ns : Int), .int .u64 (mlC.sweeps : Int)] (by rfl) Tryz.isAgg27 Tryz.sizeOf27 rfl (fun W hS j v hj => by rw [Nat.zero_add, box_cell hS.out j, List.getElem?_toArray]; exact hj)) (by assumption) ?_
    try simp only [List.getElem_toArray, List.getElem_cons_succ, List.getElem_cons_zero, Act.put, List.setIfInBounds_toArray, List.set_cons_zero, List.set_cons_succ]
    refine Hd.three (i := 1) (k := 7) (m := 8) rfl rfl rfl (by kernel_rfl) (fun K hK => ?_) (fun K hK => ?_) (fun K hK => ?_)
    · go_simp
      refine (hash_any _).mono ?_
      rintro e w12_ ⟨rfl, hb_w12_⟩
      dsimp only
      have hz_w12_ := hzd.below hb_w12_.out
      have hv_w12_ := hvd.below hb_w12_.out
      have hbb_w12_ := hbd.trans (hb_w12_.out.mono hbd.size)
      have hSn := Lib.hid (hz_w12_.box 3 rfl).1
      refine hK _ _ hSn ?_
      clear hK K
      try simp only [List.getElem_toArray, List.getElem_cons_succ, List.getElem_cons_zero, Act.put, List.setIfInBounds_toArray, List.set_cons_zero, List.set_cons_succ]
      refine Hd.take (i := 2) (v := ?tv255) hok rfl (by kernel_rfl) (fun _ _ _ h => h) (Or.inl ⟨by rfl, ?ty255⟩) (by assumption) ?tr255
      case ty255 => (intro w hSw; (try dsimp only at hSw); go_simp; (try with_reducible rfl))
      try simp only [List.getElem_toArray, List.getElem_cons_succ, List.getElem_cons_zero, Act.put, List.setIfInBounds_toArray, List.set_cons_zero, List.set_cons_succ]
      refine Hd.three (i := 3) (k := 7) (m := 8) rfl rfl rfl (by kernel_rfl) (fun K hK => ?_) (fun K hK => ?_) (fun K hK => ?_)
      · go_simp
        refine (apply_lit _ hv_w12_.now stC okC rfl rfl hmD.out).mono ?_
        rintro e w13_ ⟨vD, oD, rfl, hvD, hoD, hb_w13_⟩
        dsimp only
        obtain ⟨ab4, cb4, nb4, ah4, ch4, as4, cs4, rfl⟩ := hvD.out.now.out_
        obtain ⟨aU4, cU4, aM4, cM4, rfl⟩ := hoD.out.now.out_
        clear hvD hoD
        have hz_w13_ := hz_w12_.below hb_w13_.out
        have hv_w13_ := hv_w12_.below hb_w13_.out
        have hbb_w13_ := hbb_w12_.trans (hb_w13_.out.mono hbb_w12_.size)
        have hSn := Lib.hid (hz_w13_.box 3 rfl).1
        refine hK _ _ hSn ?_
        clear hK K
        try simp only [List.getElem_toArray, List.getElem_cons_succ, List.getElem_cons_zero, Act.put, List.setIfInBounds_toArray, List.set_cons_zero, List.set_cons_succ]
        refine Hd.take (i := 4) (v := ?tv256) hok rfl (by kernel_rfl) (fun _ _ _ h => h) (Or.inl ⟨by rfl, ?ty256⟩) (by assumption) ?tr256
        case ty256 => (intro w hSw; (try dsimp only at hSw); go_simp; (try with_reducible rfl))
        try simp only [List.getElem_toArray, List.getElem_cons_succ, List.getElem_cons_zero, Act.put, List.setIfInBounds_toArray, List.set_cons_zero, List.set_cons_succ]
        refine Hd.take (i := 5) (v := ?tv257) hok rfl (by kernel_rfl) (fun _ _ _ h => h) (Or.inl ⟨by rfl, ?ty257⟩) (by assumption) ?tr257
        case ty257 => (intro w hSw; (try dsimp only at hSw); go_simp; (try with_reducible rfl))
        try simp only [List.getElem_toArray, List.getElem_cons_succ, List.getElem_cons_zero, Act.put, List.setIfInBounds_toArray, List.set_cons_zero, List.set_cons_succ]
        refine Hd.take (i := 6) (v := ?tv258) hok rfl (by kernel_rfl) (fun _ _ _ h => h) (Or.inl ⟨by rfl, ?ty258⟩) (by assumption) ?tr258
        case ty258 => (intro w hSw; (try dsimp only at hSw); go_simp; (try with_reducible rfl))
        try simp only [List.getElem_toArray, List.getElem_cons_succ, List.getElem_cons_zero, Act.put, List.setIfInBounds_toArray, List.set_cons_zero, List.set_cons_succ]
        refine Hd.two (i := 7) (k := 8) rfl rfl (by kernel_rfl) (fun K hK => ?_) (fun K hK => ?_)
        · go_simp
          have hz_w14_ := hz_w13_.newBox [.slice none 0 0, .int .u64 0, .slice none 0 0, .slice none 0 0, .int .u64 0, .int .u64 0].toArray 27
          have hb_w14_ : Below _ w13_ _ := (Below.refl _ _).alloc (Nat.le_refl _) (.cells [.slice none 0 0, .int .u64 0, .slice none 0 0, .slice none 0 0, .int .u64 0, .int .u64 0].toArray 27)
          have hv_w14_ := hv_w13_.below hb_w14_
          have hbb_w14_ := hbb_w13_.trans (hb_w14_.mono hbb_w13_.size)
          generalize (w13_.alloc (.cells [.slice none 0 0, .int .u64 0, .slice none 0 0, .slice none 0 0, .int .u64 0, .int .u64 0].toArray 27)) = w14_ at hz_w14_ hb_w14_ hv_w14_ hbb_w14_ ⊢
          have hSn := Lib.hid (hz_w14_.box 4 rfl).1
          refine hK _ _ hSn ?_
          clear hK K
          try simp only [List.getElem_toArray, List.getElem_cons_succ, List.getElem_cons_zero, Act.put, List.setIfInBounds_toArray, List.set_cons_zero, List.set_cons_succ]
          refine Hd.one (i := 8) rfl (by kernel_rfl) (fun K hK => ?_)
          go_simp
          have hz_w15_ := hz_w14_.newBox [.int .i64 0, .int .u64 0, .int .u64 0, .slice none 0 0, .slice none 0 0].toArray 35
          have hb_w15_ : Below _ w14_ _ := (Below.refl _ _).alloc (Nat.le_refl _) (.cells [.int .i64 0, .int .u64 0, .int .u64 0, .slice none 0 0, .slice none 0 0].toArray 35)
          have hv_w15_ := hv_w14_.below hb_w15_
          have hbb_w15_ := hbb_w14_.trans (hb_w15_.mono hbb_w14_.size)
          generalize (w14_.alloc (.cells [.int .i64 0, .int .u64 0, .int .u64 0, .slice none 0 0, .slice none 0 0].toArray 35)) = w15_ at hz_w15_ hb_w15_ hv_w15_ hbb_w15_ ⊢
          have hSn := Lib.hid (hz_w15_.box 5 rfl).1
          refine hK _ _ hSn ?_
          clear hK K
          try simp only [List.getElem_toArray, List.getElem_cons_succ, List.getElem_cons_zero, Act.put, List.setIfInBounds_toArray, List.set_cons_zero, List.set_cons_succ]
          refine Hd.one (i := 9) rfl (by kernel_rfl) (fun K hK => ?_)
          have hs1 := hz_w15_.boxSome (C := [.slice none 0 0, .int .u64 0, .slice none 0 0, .slice none 0 0, .int .u64 0, .int .u64 0]) 1 rfl
          refine wp_store_op rfl 27 (.tmp 5) (.tmp 33) rfl (w13_.heap.size) 0 [.slice ab4 nb4 cb4, .int .u64 (mD.nv : Int), .slice ah4 mD.homes.length ch4, .slice as4 mD.seats.length cs4, .int .u64 (mD.ns : Int), .int .u64 (mD.sweeps : Int)] rfl rfl Tryz.sizeOf27 (al_one6 _ _ _ _ _ _ _ _ _ _ _ _) hs1.1 hs1.2 ?_
          have hz9 := hz_w15_.fillBox (C := [.slice none 0 0, .int .u64 0, .slice none 0 0, .slice none 0 0, .int .u64 0, .int .u64 0]) 1 rfl [.slice ab4 nb4 cb4, .int .u64 (mD.nv : Int), .slice ah4 mD.homes.length ch4, .slice as4 mD.seats.length cs4, .int .u64 (mD.ns : Int), .int .u64 (mD.sweeps : Int)] rfl
          have hSn := Lib.hid (hz9.box (B := TB) (C := [.slice ab3 nb3 cb3, .int .u64 (mlC.nv : Int), .slice ah3 mlC.homes.length ch3, .slice as3 mlC.seats.length cs3, .int .u64 (mlC.ns : Int), .int .u64 (mlC.sweeps : Int)].toArray) (t := 27) 5 rfl).1
          refine hK _ _ hSn ?_
          clear hK K
          try simp only [List.getElem_toArray, List.getElem_cons_succ, List.getElem_cons_zero, Act.put, List.setIfInBounds_toArray, List.set_cons_zero, List.set_cons_succ]
          refine Hd.done (by kernel_rfl) ?_
          simp only [List.drop_succ_cons, List.drop_zero]
          have hs2 := hz9.boxSome (C := [.int .i64 0, .int .u64 0, .int .u64 0, .slice none 0 0, .slice none 0 0]) 0 rfl
          refine wpList_store_cells rfl 35 (.tmp 6) (.tmp 34) rfl (w14_.heap.size) 0 [.int .i64 14, .int .u64 0, .int .u64 0, .slice aU4 0 cU4, .slice aM4 0 cM4] rfl rfl Tryz.sizeOf35 (al_one5 _ _ _ _ _ _ _) hs2.1 hs2.2 ?_
          have hzA := hz9.fillBox (C := [.int .i64 0, .int .u64 0, .int .u64 0, .slice none 0 0, .slice none 0 0]) 0 rfl [.int .i64 14, .int .u64 0, .int .u64 0, .slice aU4 0 cU4, .slice aM4 0 cM4] rfl
          have hrel : Hid (Al4 w2 w6 (boxT QB [.int .i64 0, .int .u64 0, .int .u64 2, .slice aU3 1 cU3, .slice aM3 0 cM3].toArray 35) (boxT PB [.int .i64 0, .int .u64 0, .int .u64 2, .slice aU2 0 cU2, .slice aM2 0 cM2].toArray 35) (boxT (TB + 1) [.int .i64 0, .int .u64 1, .int .u64 0, .slice aU 0 cU, .slice aM 0 cM].toArray 35) (boxT TB [.slice ab3 nb3 cb3, .int .u64 (mlC.nv : Int), .slice ah3 mlC.homes.length ch3, .slice as3 mlC.seats.length cs3, .int .u64 (mlC.ns : Int), .int .u64 (mlC.sweeps : Int)].toArray 27) _ _) := Lib.hid ⟨aU4, cU4, aM4, cM4, hzA.sub (List.Sublist.cons_cons _ (List.Sublist.cons _ (List.Sublist.refl _))), bel_sets (bel_sets hbb_w15_ _ [.slice ab4 nb4 cb4, .int .u64 (mD.nv : Int), .slice ah4 mD.homes.length ch4, .slice as4 mD.seats.length cs4, .int .u64 (mD.ns : Int), .int .u64 (mD.sweeps : Int)] hbb_w13_.size) _ [.int .i64 14, .int .u64 0, .int .u64 0, .slice aU4 0 cU4, .slice aM4 0 cM4] hbb_w14_.size⟩
          clear hs1 hs2
          go_wp2_with fail
          go_meet
          case rel => exact ⟨w14_.heap.size, rfl, hrel⟩
        · go_simp
          have hz_w16_ := hz_w13_.newBox [.int .i64 0, .int .u64 0, .int .u64 0, .slice none 0 0, .slice none 0 0].toArray 35
          have hb_w16_ : Below _ w13_ _ := (Below.refl _ _).alloc (Nat.le_refl _) (.cells [.int .i64 0, .int .u64 0, .int .u64 0, .slice none 0 0, .slice none 0 0].toArray 35)
          have hv_w16_ := hv_w13_.below hb_w16_
          have hbb_w16_ := hbb_w13_.trans (hb_w16_.mono hbb_w13_.size)
          generalize (w13_.alloc (.cells [.int .i64 0, .int .u64 0, .int .u64 0, .slice none 0 0, .slice none 0 0].toArray 35)) = w16_ at hz_w16_ hb_w16_ hv_w16_ hbb_w16_ ⊢
          have hSn := Lib.hid (hz_w16_.box 4 rfl).1
          refine hK _ _ hSn ?_
          clear hK K
          try simp only [List.getElem_toArray, List.getElem_cons_succ, List.getElem_cons_zero, Act.put, List.setIfInBounds_toArray, List.set_cons_zero, List.set_cons_succ]
          refine Hd.one (i := 7) rfl (by kernel_rfl) (fun K hK => ?_)
          go_simp
          have hz_w17_ := hz_w16_.newBox [.slice none 0 0, .int .u64 0, .slice none 0 0, .slice none 0 0, .int .u64 0, .int .u64 0].toArray 27
          have hb_w17_ : Below _ w16_ _ := (Below.refl _ _).alloc (Nat.le_refl _) (.cells [.slice none 0 0, .int .u64 0, .slice none 0 0, .slice none 0 0, .int .u64 0, .int .u64 0].toArray 27)
          have hv_w17_ := hv_w16_.below hb_w17_
          have hbb_w17_ := hbb_w16_.trans (hb_w17_.mono hbb_w16_.size)
          generalize (w16_.alloc (.cells [.slice none 0 0, .int .u64 0, .slice none 0 0, .slice none 0 0, .int .u64 0, .int .u64 0].toArray 27)) = w17_ at hz_w17_ hb_w17_ hv_w17_ hbb_w17_ ⊢
          have hSn := Lib.hid (hz_w17_.box 5 rfl).1
          refine hK _ _ hSn ?_
          clear hK K
          try simp only [List.getElem_toArray, List.getElem_cons_succ, List.getElem_cons_zero, Act.put, List.setIfInBounds_toArray, List.set_cons_zero, List.set_cons_succ]
          refine Hd.one (i := 9) rfl (by kernel_rfl) (fun K hK => ?_)
          have hs1 := hz_w17_.boxSome (C := [.slice none 0 0, .int .u64 0, .slice none 0 0, .slice none 0 0, .int .u64 0, .int .u64 0]) 0 rfl
          refine wp_store_op rfl 27 (.tmp 5) (.tmp 33) rfl (w16_.heap.size) 0 [.slice ab4 nb4 cb4, .int .u64 (mD.nv : Int), .slice ah4 mD.homes.length ch4, .slice as4 mD.seats.length cs4, .int .u64 (mD.ns : Int), .int .u64 (mD.sweeps : Int)] rfl rfl Tryz.sizeOf27 (al_one6 _ _ _ _ _ _ _ _ _ _ _ _) hs1.1 hs1.2 ?_
          have hz9 := hz_w17_.fillBox (C := [.slice none 0 0, .int .u64 0, .slice none 0 0, .slice none 0 0, .int .u64 0, .int .u64 0]) 0 rfl [.slice ab4 nb4 cb4, .int .u64 (mD.nv : Int), .slice ah4 mD.homes.length ch4, .slice as4 mD.seats.length cs4, .int .u64 (mD.ns : Int), .int .u64 (mD.sweeps : Int)] rfl
          have hSn := Lib.hid (hz9.box (B := TB) (C := [.slice ab3 nb3 cb3, .int .u64 (mlC.nv : Int), .slice ah3 mlC.homes.length ch3, .slice as3 mlC.seats.length cs3, .int .u64 (mlC.ns : Int), .int .u64 (mlC.sweeps : Int)].toArray) (t := 27) 5 rfl).1
          refine hK _ _ hSn ?_
          clear hK K
          try simp only [List.getElem_toArray, List.getElem_cons_succ, List.getElem_cons_zero, Act.put, List.setIfInBounds_toArray, List.set_cons_zero, List.set_cons_succ]
          refine Hd.done (by kernel_rfl) ?_
          simp only [List.drop_succ_cons, List.drop_zero]
          have hs2 := hz9.boxSome (C := [.int .i64 0, .int .u64 0, .int .u64 0, .slice none 0 0, .slice none 0 0]) 1 rfl
          refine wpList_store_cells rfl 35 (.tmp 6) (.tmp 34) rfl (w13_.heap.size) 0 [.int .i64 14, .int .u64 0, .int .u64 0, .slice aU4 0 cU4, .slice aM4 0 cM4] rfl rfl Tryz.sizeOf35 (al_one5 _ _ _ _ _ _ _) hs2.1 hs2.2 ?_
          have hzA := hz9.fillBox (C := [.int .i64 0, .int .u64 0, .int .u64 0, .slice none 0 0, .slice none 0 0]) 1 rfl [.int .i64 14, .int .u64 0, .int .u64 0, .slice aU4 0 cU4, .slice aM4 0 cM4] rfl
          have hrel : Hid (Al4 w2 w6 (boxT QB [.int .i64 0, .int .u64 0, .int .u64 2, .slice aU3 1 cU3, .slice aM3 0 cM3].toArray 35) (boxT PB [.int .i64 0, .int .u64 0, .int .u64 2, .slice aU2 0 cU2, .slice aM2 0 cM2].toArray 35) (boxT (TB + 1) [.int .i64 0, .int .u64 1, .int .u64 0, .slice aU 0 cU, .slice aM 0 cM].toArray 35) (boxT TB [.slice ab3 nb3 cb3, .int .u64 (mlC.nv : Int), .slice ah3 mlC.homes.length ch3, .slice as3 mlC.seats.length cs3, .int .u64 (mlC.ns : Int), .int .u64 (mlC.sweeps : Int)].toArray 27) _ _) := Lib.hid ⟨aU4, cU4, aM4, cM4, hzA.swap.sub (List.Sublist.cons_cons _ (List.Sublist.cons _ (List.Sublist.refl _))), bel_sets (bel_sets hbb_w17_ _ [.slice ab4 nb4 cb4, .int .u64 (mD.nv : Int), .slice ah4 mD.homes.length ch4, .slice as4 mD.seats.length cs4, .int .u64 (mD.ns : Int), .int .u64 (mD.sweeps : Int)] hbb_w16_.size) _ [.int .i64 14, .int .u64 0, .int .u64 0, .slice aU4 0 cU4, .slice aM4 0 cM4] hbb_w13_.size⟩
          clear hs1 hs2
          go_wp2_with fail
          go_meet
          case rel => exact ⟨w13_.heap.size, rfl, hrel⟩
      · go_simp
        have hz_w18_ := hz_w12_.newBox [.slice none 0 0, .int .u64 0, .slice none 0 0, .slice none 0 0, .int .u64 0, .int .u64 0].toArray 27
        have hb_w18_ : Below _ w12_ _ := (Below.refl _ _).alloc (Nat.le_refl _) (.cells [.slice none 0 0, .int .u64 0, .slice none 0 0, .slice none 0 0, .int .u64 0, .int .u64 0].toArray 27)
        have hv_w18_ := hv_w12_.below hb_w18_
        have hbb_w18_ := hbb_w12_.trans (hb_w18_.mono hbb_w12_.size)
        generalize (w12_.alloc (.cells [.slice none 0 0, .int .u64 0, .slice none 0 0, .slice none 0 0, .int .u64 0, .int .u64 0].toArray 27)) = w18_ at hz_w18_ hb_w18_ hv_w18_ hbb_w18_ ⊢
        have hSn := Lib.hid (hz_w18_.box 4 rfl).1
        refine hK _ _ hSn ?_
        clear hK K
        try simp only [List.getElem_toArray, List.getElem_cons_succ, List.getElem_cons_zero, Act.put, List.setIfInBounds_toArray, List.set_cons_zero, List.set_cons_succ]
        refine Hd.two (i := 3) (k := 8) rfl rfl (by kernel_rfl) (fun K hK => ?_) (fun K hK => ?_)
        · go_simp
          refine (apply_lit _ hv_w18_.now stC okC rfl rfl hmD.out).mono ?_
          rintro e w19_ ⟨vD, oD, rfl, hvD, hoD, hb_w19_⟩
          dsimp only
          obtain ⟨ab4, cb4, nb4, ah4, ch4, as4, cs4, rfl⟩ := hvD.out.now.out_
          obtain ⟨aU4, cU4, aM4, cM4, rfl⟩ := hoD.out.now.out_
          clear hvD hoD
          have hz_w19_ := hz_w18_.below hb_w19_.out
          have hv_w19_ := hv_w18_.below hb_w19_.out
          have hbb_w19_ := hbb_w18_.trans (hb_w19_.out.mono hbb_w18_.size)
          have hSn := Lib.hid (hz_w19_.box 4 rfl).1
          refine hK _ _ hSn ?_
          clear hK K
          try simp only [List.getElem_toArray, List.getElem_cons_succ, List.getElem_cons_zero, Act.put, List.setIfInBounds_toArray, List.set_cons_zero, List.set_cons_succ]
          refine Hd.take (i := 4) (v := ?tv259) hok rfl (by kernel_rfl) (fun _ _ _ h => h) (Or.inl ⟨by rfl, ?ty259⟩) (by assumption) ?tr259
          case ty259 => (intro w hSw; (try dsimp only at hSw); go_simp; (try with_reducible rfl))
          try simp only [List.getElem_toArray, List.getElem_cons_succ, List.getElem_cons_zero, Act.put, List.setIfInBounds_toArray, List.set_cons_zero, List.set_cons_succ]
          refine Hd.take (i := 5) (v := ?tv260) hok rfl (by kernel_rfl) (fun _ _ _ h => h) (Or.inl ⟨by rfl, ?ty260⟩) (by assumption) ?tr260
          case ty260 => (intro w hSw; (try dsimp only at hSw); go_simp; (try with_reducible rfl))
          try simp only [List.getElem_toArray, List.getElem_cons_succ, List.getElem_cons_zero, Act.put, List.setIfInBounds_toArray, List.set_cons_zero, List.set_cons_succ]
          refine Hd.take (i := 6) (v := ?tv261) hok rfl (by kernel_rfl) (fun _ _ _ h => h) (Or.inl ⟨by rfl, ?ty261⟩) (by assumption) ?tr261
          case ty261 => (intro w hSw; (try dsimp only at hSw); go_simp; (try with_reducible rfl))
          try simp only [List.getElem_toArray, List.getElem_cons_succ, List.getElem_cons_zero, Act.put, List.setIfInBounds_toArray, List.set_cons_zero, List.set_cons_succ]
          refine Hd.one (i := 8) rfl (by kernel_rfl) (fun K hK => ?_)
          go_simp
          have hz_w20_ := hz_w19_.newBox [.int .i64 0, .int .u64 0, .int .u64 0, .slice none 0 0, .slice none 0 0].toArray 35
          have hb_w20_ : Below _ w19_ _ := (Below.refl _ _).alloc (Nat.le_refl _) (.cells [.int .i64 0, .int .u64 0, .int .u64 0, .slice none 0 0, .slice none 0 0].toArray 35)
          have hv_w20_ := hv_w19_.below hb_w20_
          have hbb_w20_ := hbb_w19_.trans (hb_w20_.mono hbb_w19_.size)
          generalize (w19_.alloc (.cells [.int .i64 0, .int .u64 0, .int .u64 0, .slice none 0 0, .slice none 0 0].toArray 35)) = w20_ at hz_w20_ hb_w20_ hv_w20_ hbb_w20_ ⊢
          have hSn := Lib.hid (hz_w20_.box 5 rfl).1
          refine hK _ _ hSn ?_
          clear hK K
          try simp only [List.getElem_toArray, List.getElem_cons_succ, List.getElem_cons_zero, Act.put, List.setIfInBounds_toArray, List.set_cons_zero, List.set_cons_succ]
          refine Hd.one (i := 9) rfl (by kernel_rfl) (fun K hK => ?_)
          have hs1 := hz_w20_.boxSome (C := [.slice none 0 0, .int .u64 0, .slice none 0 0, .slice none 0 0, .int .u64 0, .int .u64 0]) 1 rfl
          refine wp_store_op rfl 27 (.tmp 5) (.tmp 33) rfl (w12_.heap.size) 0 [.slice ab4 nb4 cb4, .int .u64 (mD.nv : Int), .slice ah4 mD.homes.length ch4, .slice as4 mD.seats.length cs4, .int .u64 (mD.ns : Int), .int .u64 (mD.sweeps : Int)] rfl rfl Tryz.sizeOf27 (al_one6 _ _ _ _ _ _ _ _ _ _ _ _) hs1.1 hs1.2 ?_
          have hz9 := hz_w20_.fillBox (C := [.slice none 0 0, .int .u64 0, .slice none 0 0, .slice none 0 0, .int .u64 0, .int .u64 0]) 1 rfl [.slice ab4 nb4 cb4, .int .u64 (mD.nv : Int), .slice ah4 mD.homes.length ch4, .slice as4 mD.seats.length cs4, .int .u64 (mD.ns : Int), .int .u64 (mD.sweeps : Int)] rfl
          have hSn := Lib.hid (hz9.box (B := TB) (C := [.slice ab3 nb3 cb3, .int .u64 (mlC.nv : Int), .slice ah3 mlC.homes.length ch3, .slice as3 mlC.seats.length cs3, .int .u64 (mlC.ns : Int), .int .u64 (mlC.sweeps : Int)].toArray) (t := 27) 5 rfl).1
          refine hK _ _ hSn ?_
          clear hK K
          try simp only [List.getElem_toArray, List.getElem_cons_succ, List.getElem_cons_zero, Act.put, List.setIfInBounds_toArray, List.set_cons_zero, List.set_cons_succ]
          refine Hd.done (by kernel_rfl) ?_
          simp only [List.drop_succ_cons, List.drop_zero]
          have hs2 := hz9.boxSome (C := [.int .i64 0, .int .u64 0, .int .u64 0, .slice none 0 0, .slice none 0 0]) 0 rfl
          refine wpList_store_cells rfl 35 (.tmp 6) (.tmp 34) rfl (w19_.heap.size) 0 [.int .i64 14, .int .u64 0, .int .u64 0, .slice aU4 0 cU4, .slice aM4 0 cM4] rfl rfl Tryz.sizeOf35 (al_one5 _ _ _ _ _ _ _) hs2.1 hs2.2 ?_
          have hzA := hz9.fillBox (C := [.int .i64 0, .int .u64 0, .int .u64 0, .slice none 0 0, .slice none 0 0]) 0 rfl [.int .i64 14, .int .u64 0, .int .u64 0, .slice aU4 0 cU4, .slice aM4 0 cM4] rfl
          have hrel : Hid (Al4 w2 w6 (boxT QB [.int .i64 0, .int .u64 0, .int .u64 2, .slice aU3 1 cU3, .slice aM3 0 cM3].toArray 35) (boxT PB [.int .i64 0, .int .u64 0, .int .u64 2, .slice aU2 0 cU2, .slice aM2 0 cM2].toArray 35) (boxT (TB + 1) [.int .i64 0, .int .u64 1, .int .u64 0, .slice aU 0 cU, .slice aM 0 cM].toArray 35) (boxT TB [.slice ab3 nb3 cb3, .int .u64 (mlC.nv : Int), .slice ah3 mlC.homes.length ch3, .slice as3 mlC.seats.length cs3, .int .u64 (mlC.ns : Int), .int .u64 (mlC.sweeps : Int)].toArray 27) _ _) := Lib.hid ⟨aU4, cU4, aM4, cM4, hzA.sub (List.Sublist.cons_cons _ (List.Sublist.cons _ (List.Sublist.refl _))), bel_sets (bel_sets hbb_w20_ _ [.slice ab4 nb4 cb4, .int .u64 (mD.nv : Int), .slice ah4 mD.homes.length ch4, .slice as4 mD.seats.length cs4, .int .u64 (mD.ns : Int), .int .u64 (mD.sweeps : Int)] hbb_w12_.size) _ [.int .i64 14, .int .u64 0, .int .u64 0, .slice aU4 0 cU4, .slice aM4 0 cM4] hbb_w19_.size⟩
          clear hs1 hs2
          go_wp2_with fail
          go_meet
          case rel => exact ⟨w19_.heap.size, rfl, hrel⟩
        · go_simp
          have hz_w21_ := hz_w18_.newBox [.int .i64 0, .int .u64 0, .int .u64 0, .slice none 0 0, .slice none 0 0].toArray 35
          have hb_w21_ : Below _ w18_ _ := (Below.refl _ _).alloc (Nat.le_refl _) (.cells [.int .i64 0, .int .u64 0, .int .u64 0, .slice none 0 0, .slice none 0 0].toArray 35)
          have hv_w21_ := hv_w18_.below hb_w21_
          have hbb_w21_ := hbb_w18_.trans (hb_w21_.mono hbb_w18_.size)
          generalize (w18_.alloc (.cells [.int .i64 0, .int .u64 0, .int .u64 0, .slice none 0 0, .slice none 0 0].toArray 35)) = w21_ at hz_w21_ hb_w21_ hv_w21_ hbb_w21_ ⊢
          have hSn := Lib.hid (hz_w21_.box 5 rfl).1
          refine hK _ _ hSn ?_
          clear hK K
          try simp only [List.getElem_toArray, List.getElem_cons_succ, List.getElem_cons_zero, Act.put, List.setIfInBounds_toArray, List.set_cons_zero, List.set_cons_succ]
          refine Hd.one (i := 3) rfl (by kernel_rfl) (fun K hK => ?_)
          go_simp
          refine (apply_lit _ hv_w21_.now stC okC rfl rfl hmD.out).mono ?_
          rintro e w22_ ⟨vD, oD, rfl, hvD, hoD, hb_w22_⟩
          dsimp only
          obtain ⟨ab4, cb4, nb4, ah4, ch4, as4, cs4, rfl⟩ := hvD.out.now.out_
          obtain ⟨aU4, cU4, aM4, cM4, rfl⟩ := hoD.out.now.out_
          clear hvD hoD
          have hz_w22_ := hz_w21_.below hb_w22_.out
          have hv_w22_ := hv_w21_.below hb_w22_.out
          have hbb_w22_ := hbb_w21_.trans (hb_w22_.out.mono hbb_w21_.size)
          have hSn := Lib.hid (hz_w22_.box 5 rfl).1
          refine hK _ _ hSn ?_
          clear hK K
          try simp only [List.getElem_toArray, List.getElem_cons_succ, List.getElem_cons_zero, Act.put, List.setIfInBounds_toArray, List.set_cons_zero, List.set_cons_succ]
          refine Hd.take (i := 4) (v := ?tv262) hok rfl (by kernel_rfl) (fun _ _ _ h => h) (Or.inl ⟨by rfl, ?ty262⟩) (by assumption) ?tr262
          case ty262 => (intro w hSw; (try dsimp only at hSw); go_simp; (try with_reducible rfl))
          try simp only [List.getElem_toArray, List.getElem_cons_succ, List.getElem_cons_zero, Act.put, List.setIfInBounds_toArray, List.set_cons_zero, List.set_cons_succ]
          refine Hd.take (i := 5) (v := ?tv263) hok rfl (by kernel_rfl) (fun _ _ _ h => h) (Or.inl ⟨by rfl, ?ty263⟩) (by assumption) ?tr263
          case ty263 => (intro w hSw; (try dsimp only at hSw); go_simp; (try with_reducible rfl))
          try simp only [List.getElem_toArray, List.getElem_cons_succ, List.getElem_cons_zero, Act.put, List.setIfInBounds_toArray, List.set_cons_zero, List.set_cons_succ]
          refine Hd.take (i := 6) (v := ?tv264) hok rfl (by kernel_rfl) (fun _ _ _ h => h) (Or.inl ⟨by rfl, ?ty264⟩) (by assumption) ?tr264
          case ty264 => (intro w hSw; (try dsimp only at hSw); go_simp; (try with_reducible rfl))
          try simp only [List.getElem_toArray, List.getElem_cons_succ, List.getElem_cons_zero, Act.put, List.setIfInBounds_toArray, List.set_cons_zero, List.set_cons_succ]
          refine Hd.one (i := 9) rfl (by kernel_rfl) (fun K hK => ?_)
          have hs1 := hz_w22_.boxSome (C := [.slice none 0 0, .int .u64 0, .slice none 0 0, .slice none 0 0, .int .u64 0, .int .u64 0]) 1 rfl
          refine wp_store_op rfl 27 (.tmp 5) (.tmp 33) rfl (w12_.heap.size) 0 [.slice ab4 nb4 cb4, .int .u64 (mD.nv : Int), .slice ah4 mD.homes.length ch4, .slice as4 mD.seats.length cs4, .int .u64 (mD.ns : Int), .int .u64 (mD.sweeps : Int)] rfl rfl Tryz.sizeOf27 (al_one6 _ _ _ _ _ _ _ _ _ _ _ _) hs1.1 hs1.2 ?_
          have hz9 := hz_w22_.fillBox (C := [.slice none 0 0, .int .u64 0, .slice none 0 0, .slice none 0 0, .int .u64 0, .int .u64 0]) 1 rfl [.slice ab4 nb4 cb4, .int .u64 (mD.nv : Int), .slice ah4 mD.homes.length ch4, .slice as4 mD.seats.length cs4, .int .u64 (mD.ns : Int), .int .u64 (mD.sweeps : Int)] rfl
          have hSn := Lib.hid (hz9.box (B := TB) (C := [.slice ab3 nb3 cb3, .int .u64 (mlC.nv : Int), .slice ah3 mlC.homes.length ch3, .slice as3 mlC.seats.length cs3, .int .u64 (mlC.ns : Int), .int .u64 (mlC.sweeps : Int)].toArray) (t := 27) 5 rfl).1
          refine hK _ _ hSn ?_
          clear hK K
          try simp only [List.getElem_toArray, List.getElem_cons_succ, List.getElem_cons_zero, Act.put, List.setIfInBounds_toArray, List.set_cons_zero, List.set_cons_succ]
          refine Hd.done (by kernel_rfl) ?_
          simp only [List.drop_succ_cons, List.drop_zero]
          have hs2 := hz9.boxSome (C := [.int .i64 0, .int .u64 0, .int .u64 0, .slice none 0 0, .slice none 0 0]) 0 rfl
          refine wpList_store_cells rfl 35 (.tmp 6) (.tmp 34) rfl (w18_.heap.size) 0 [.int .i64 14, .int .u64 0, .int .u64 0, .slice aU4 0 cU4, .slice aM4 0 cM4] rfl rfl Tryz.sizeOf35 (al_one5 _ _ _ _ _ _ _) hs2.1 hs2.2 ?_
          have hzA := hz9.fillBox (C := [.int .i64 0, .int .u64 0, .int .u64 0, .slice none 0 0, .slice none 0 0]) 0 rfl [.int .i64 14, .int .u64 0, .int .u64 0, .slice aU4 0 cU4, .slice aM4 0 cM4] rfl
          have hrel : Hid (Al4 w2 w6 (boxT QB [.int .i64 0, .int .u64 0, .int .u64 2, .slice aU3 1 cU3, .slice aM3 0 cM3].toArray 35) (boxT PB [.int .i64 0, .int .u64 0, .int .u64 2, .slice aU2 0 cU2, .slice aM2 0 cM2].toArray 35) (boxT (TB + 1) [.int .i64 0, .int .u64 1, .int .u64 0, .slice aU 0 cU, .slice aM 0 cM].toArray 35) (boxT TB [.slice ab3 nb3 cb3, .int .u64 (mlC.nv : Int), .slice ah3 mlC.homes.length ch3, .slice as3 mlC.seats.length cs3, .int .u64 (mlC.ns : Int), .int .u64 (mlC.sweeps : Int)].toArray 27) _ _) := Lib.hid ⟨aU4, cU4, aM4, cM4, hzA.sub (List.Sublist.cons_cons _ (List.Sublist.cons _ (List.Sublist.refl _))), bel_sets (bel_sets hbb_w22_ _ [.slice ab4 nb4 cb4, .int .u64 (mD.nv : Int), .slice ah4 mD.homes.length ch4, .slice as4 mD.seats.length cs4, .int .u64 (mD.ns : Int), .int .u64 (mD.sweeps : Int)] hbb_w12_.size) _ [.int .i64 14, .int .u64 0, .int .u64 0, .slice aU4 0 cU4, .slice aM4 0 cM4] hbb_w18_.size⟩
          clear hs1 hs2
          go_wp2_with fail
          go_meet
          case rel => exact ⟨w18_.heap.size, rfl, hrel⟩
      · go_simp
        have hz_w23_ := hz_w12_.newBox [.int .i64 0, .int .u64 0, .int .u64 0, .slice none 0 0, .slice none 0 0].toArray 35
        have hb_w23_ : Below _ w12_ _ := (Below.refl _ _).alloc (Nat.le_refl _) (.cells [.int .i64 0, .int .u64 0, .int .u64 0, .slice none 0 0, .slice none 0 0].toArray 35)
        have hv_w23_ := hv_w12_.below hb_w23_
        have hbb_w23_ := hbb_w12_.trans (hb_w23_.mono hbb_w12_.size)
        generalize (w12_.alloc (.cells [.int .i64 0, .int .u64 0, .int .u64 0, .slice none 0 0, .slice none 0 0].toArray 35)) = w23_ at hz_w23_ hb_w23_ hv_w23_ hbb_w23_ ⊢
        have hSn := Lib.hid (hz_w23_.box 4 rfl).1
        refine hK _ _ hSn ?_
        clear hK K
        try simp only [List.getElem_toArray, List.getElem_cons_succ, List.getElem_cons_zero, Act.put, List.setIfInBounds_toArray, List.set_cons_zero, List.set_cons_succ]
        refine Hd.two (i := 3) (k := 7) rfl rfl (by kernel_rfl) (fun K hK => ?_) (fun K hK => ?_)
        · go_simp
          refine (apply_lit _ hv_w23_.now stC okC rfl rfl hmD.out).mono ?_
          rintro e w24_ ⟨vD, oD, rfl, hvD, hoD, hb_w24_⟩
          dsimp only
          obtain ⟨ab4, cb4, nb4, ah4, ch4, as4, cs4, rfl⟩ := hvD.out.now.out_
          obtain ⟨aU4, cU4, aM4, cM4, rfl⟩ := hoD.out.now.out_
          clear hvD hoD
          have hz_w24_ := hz_w23_.below hb_w24_.out
          have hv_w24_ := hv_w23_.below hb_w24_.out
          have hbb_w24_ := hbb_w23_.trans (hb_w24_.out.mono hbb_w23_.size)
          have hSn := Lib.hid (hz_w24_.box 4 rfl).1
          refine hK _ _ hSn ?_
          clear hK K
          try simp only [List.getElem_toArray, List.getElem_cons_succ, List.getElem_cons_zero, Act.put, List.setIfInBounds_toArray, List.set_cons_zero, List.set_cons_succ]
          refine Hd.take (i := 4) (v := ?tv265) hok rfl (by kernel_rfl) (fun _ _ _ h => h) (Or.inl ⟨by rfl, ?ty265⟩) (by assumption) ?tr265
          case ty265 => (intro w hSw; (try dsimp only at hSw); go_simp; (try with_reducible rfl))
          try simp only [List.getElem_toArray, List.getElem_cons_succ, List.getElem_cons_zero, Act.put, List.setIfInBounds_toArray, List.set_cons_zero, List.set_cons_succ]
          refine Hd.take (i := 5) (v := ?tv266) hok rfl (by kernel_rfl) (fun _ _ _ h => h) (Or.inl ⟨by rfl, ?ty266⟩) (by assumption) ?tr266
          case ty266 => (intro w hSw; (try dsimp only at hSw); go_simp; (try with_reducible rfl))
          try simp only [List.getElem_toArray, List.getElem_cons_succ, List.getElem_cons_zero, Act.put, List.setIfInBounds_toArray, List.set_cons_zero, List.set_cons_succ]
          refine Hd.take (i := 6) (v := ?tv267) hok rfl (by kernel_rfl) (fun _ _ _ h => h) (Or.inl ⟨by rfl, ?ty267⟩) (by assumption) ?tr267
          case ty267 => (intro w hSw; (try dsimp only at hSw); go_simp; (try with_reducible rfl))
          try simp only [List.getElem_toArray, List.getElem_cons_succ, List.getElem_cons_zero, Act.put, List.setIfInBounds_toArray, List.set_cons_zero, List.set_cons_succ]
          refine Hd.one (i := 7) rfl (by kernel_rfl) (fun K hK => ?_)
          go_simp
          have hz_w25_ := hz_w24_.newBox [.slice none 0 0, .int .u64 0, .slice none 0 0, .slice none 0 0, .int .u64 0, .int .u64 0].toArray 27
          have hb_w25_ : Below _ w24_ _ := (Below.refl _ _).alloc (Nat.le_refl _) (.cells [.slice none 0 0, .int .u64 0, .slice none 0 0, .slice none 0 0, .int .u64 0, .int .u64 0].toArray 27)
          have hv_w25_ := hv_w24_.below hb_w25_
          have hbb_w25_ := hbb_w24_.trans (hb_w25_.mono hbb_w24_.size)
          generalize (w24_.alloc (.cells [.slice none 0 0, .int .u64 0, .slice none 0 0, .slice none 0 0, .int .u64 0, .int .u64 0].toArray 27)) = w25_ at hz_w25_ hb_w25_ hv_w25_ hbb_w25_ ⊢
          have hSn := Lib.hid (hz_w25_.box 5 rfl).1
          refine hK _ _ hSn ?_
          clear hK K
          try simp only [List.getElem_toArray, List.getElem_cons_succ, List.getElem_cons_zero, Act.put, List.setIfInBounds_toArray, List.set_cons_zero, List.set_cons_succ]
          refine Hd.one (i := 9) rfl (by kernel_rfl) (fun K hK => ?_)
          have hs1 := hz_w25_.boxSome (C := [.slice none 0 0, .int .u64 0, .slice none 0 0, .slice none 0 0, .int .u64 0, .int .u64 0]) 0 rfl
          refine wp_store_op rfl 27 (.tmp 5) (.tmp 33) rfl (w24_.heap.size) 0 [.slice ab4 nb4 cb4, .int .u64 (mD.nv : Int), .slice ah4 mD.homes.length ch4, .slice as4 mD.seats.length cs4, .int .u64 (mD.ns : Int), .int .u64 (mD.sweeps : Int)] rfl rfl Tryz.sizeOf27 (al_one6 _ _ _ _ _ _ _ _ _ _ _ _) hs1.1 hs1.2 ?_
          have hz9 := hz_w25_.fillBox (C := [.slice none 0 0, .int .u64 0, .slice none 0 0, .slice none 0 0, .int .u64 0, .int .u64 0]) 0 rfl [.slice ab4 nb4 cb4, .int .u64 (mD.nv : Int), .slice ah4 mD.homes.length ch4, .slice as4 mD.seats.length cs4, .int .u64 (mD.ns : Int), .int .u64 (mD.sweeps : Int)] rfl
          have hSn := Lib.hid (hz9.box (B := TB) (C := [.slice ab3 nb3 cb3, .int .u64 (mlC.nv : Int), .slice ah3 mlC.homes.length ch3, .slice as3 mlC.seats.length cs3, .int .u64 (mlC.ns : Int), .int .u64 (mlC.sweeps : Int)].toArray) (t := 27) 5 rfl).1
          refine hK _ _ hSn ?_
          clear hK K
          try simp only [List.getElem_toArray, List.getElem_cons_succ, List.getElem_cons_zero, Act.put, List.setIfInBounds_toArray, List.set_cons_zero, List.set_cons_succ]
          refine Hd.done (by kernel_rfl) ?_
          simp only [List.drop_succ_cons, List.drop_zero]
          have hs2 := hz9.boxSome (C := [.int .i64 0, .int .u64 0, .int .u64 0, .slice none 0 0, .slice none 0 0]) 1 rfl
          refine wpList_store_cells rfl 35 (.tmp 6) (.tmp 34) rfl (w12_.heap.size) 0 [.int .i64 14, .int .u64 0, .int .u64 0, .slice aU4 0 cU4, .slice aM4 0 cM4] rfl rfl Tryz.sizeOf35 (al_one5 _ _ _ _ _ _ _) hs2.1 hs2.2 ?_
          have hzA := hz9.fillBox (C := [.int .i64 0, .int .u64 0, .int .u64 0, .slice none 0 0, .slice none 0 0]) 1 rfl [.int .i64 14, .int .u64 0, .int .u64 0, .slice aU4 0 cU4, .slice aM4 0 cM4] rfl
          have hrel : Hid (Al4 w2 w6 (boxT QB [.int .i64 0, .int .u64 0, .int .u64 2, .slice aU3 1 cU3, .slice aM3 0 cM3].toArray 35) (boxT PB [.int .i64 0, .int .u64 0, .int .u64 2, .slice aU2 0 cU2, .slice aM2 0 cM2].toArray 35) (boxT (TB + 1) [.int .i64 0, .int .u64 1, .int .u64 0, .slice aU 0 cU, .slice aM 0 cM].toArray 35) (boxT TB [.slice ab3 nb3 cb3, .int .u64 (mlC.nv : Int), .slice ah3 mlC.homes.length ch3, .slice as3 mlC.seats.length cs3, .int .u64 (mlC.ns : Int), .int .u64 (mlC.sweeps : Int)].toArray 27) _ _) := Lib.hid ⟨aU4, cU4, aM4, cM4, hzA.swap.sub (List.Sublist.cons_cons _ (List.Sublist.cons _ (List.Sublist.refl _))), bel_sets (bel_sets hbb_w25_ _ [.slice ab4 nb4 cb4, .int .u64 (mD.nv : Int), .slice ah4 mD.homes.length ch4, .slice as4 mD.seats.length cs4, .int .u64 (mD.ns : Int), .int .u64 (mD.sweeps : Int)] hbb_w24_.size) _ [.int .i64 14, .int .u64 0, .int .u64 0, .slice aU4 0 cU4, .slice aM4 0 cM4] hbb_w12_.size⟩
          clear hs1 hs2
          go_wp2_with fail
          go_meet
          case rel => exact ⟨w12_.heap.size, rfl, hrel⟩
        · go_simp
          have hz_w26_ := hz_w23_.newBox [.slice none 0 0, .int .u64 0, .slice none 0 0, .slice none 0 0, .int .u64 0, .int .u64 0].toArray 27
          have hb_w26_ : Below _ w23_ _ := (Below.refl _ _).alloc (Nat.le_refl _) (.cells [.slice none 0 0, .int .u64 0, .slice none 0 0, .slice none 0 0, .int .u64 0, .int .u64 0].toArray 27)
          have hv_w26_ := hv_w23_.below hb_w26_
          have hbb_w26_ := hbb_w23_.trans (hb_w26_.mono hbb_w23_.size)
          generalize (w23_.alloc (.cells [.slice none 0 0, .int .u64 0, .slice none 0 0, .slice none 0 0, .int .u64 0, .int .u64 0].toArray 27)) = w26_ at hz_w26_ hb_w26_ hv_w26_ hbb_w26_ ⊢
          have hSn := Lib.hid (hz_w26_.box 5 rfl).1
          refine hK _ _ hSn ?_
          clear hK K
          try simp only [List.getElem_toArray, List.getElem_cons_succ, List.getElem_cons_zero, Act.put, List.setIfInBounds_toArray, List.set_cons_zero, List.set_cons_succ]
          refine Hd.one (i := 3) rfl (by kernel_rfl) (fun K hK => ?_)
          go_simp
          refine (apply_lit _ hv_w26_.now stC okC rfl rfl hmD.out).mono ?_
          rintro e w27_ ⟨vD, oD, rfl, hvD, hoD, hb_w27_⟩
          dsimp only
          obtain ⟨ab4, cb4, nb4, ah4, ch4, as4, cs4, rfl⟩ := hvD.out.now.out_
          obtain ⟨aU4, cU4, aM4, cM4, rfl⟩ := hoD.out.now.out_
          clear hvD hoD
          have hz_w27_ := hz_w26_.below hb_w27_.out
          have hv_w27_ := hv_w26_.below hb_w27_.out
          have hbb_w27_ := hbb_w26_.trans (hb_w27_.out.mono hbb_w26_.size)
          have hSn := Lib.hid (hz_w27_.box 5 rfl).1
          refine hK _ _ hSn ?_
          clear hK K
          try simp only [List.getElem_toArray, List.getElem_cons_succ, List.getElem_cons_zero, Act.put, List.setIfInBounds_toArray, List.set_cons_zero, List.set_cons_succ]
          refine Hd.take (i := 4) (v := ?tv268) hok rfl (by kernel_rfl) (fun _ _ _ h => h) (Or.inl ⟨by rfl, ?ty268⟩) (by assumption) ?tr268
          case ty268 => (intro w hSw; (try dsimp only at hSw); go_simp; (try with_reducible rfl))
          try simp only [List.getElem_toArray, List.getElem_cons_succ, List.getElem_cons_zero, Act.put, List.setIfInBounds_toArray, List.set_cons_zero, List.set_cons_succ]
          refine Hd.take (i := 5) (v := ?tv269) hok rfl (by kernel_rfl) (fun _ _ _ h => h) (Or.inl ⟨by rfl, ?ty269⟩) (by assumption) ?tr269
          case ty269 => (intro w hSw; (try dsimp only at hSw); go_simp; (try with_reducible rfl))
          try simp only [List.getElem_toArray, List.getElem_cons_succ, List.getElem_cons_zero, Act.put, List.setIfInBounds_toArray, List.set_cons_zero, List.set_cons_succ]
          refine Hd.take (i := 6) (v := ?tv270) hok rfl (by kernel_rfl) (fun _ _ _ h => h) (Or.inl ⟨by rfl, ?ty270⟩) (by assumption) ?tr270
          case ty270 => (intro w hSw; (try dsimp only at hSw); go_simp; (try with_reducible rfl))
          try simp only [List.getElem_toArray, List.getElem_cons_succ, List.getElem_cons_zero, Act.put, List.setIfInBounds_toArray, List.set_cons_zero, List.set_cons_succ]
          refine Hd.one (i := 9) rfl (by kernel_rfl) (fun K hK => ?_)
          have hs1 := hz_w27_.boxSome (C := [.slice none 0 0, .int .u64 0, .slice none 0 0, .slice none 0 0, .int .u64 0, .int .u64 0]) 0 rfl
          refine wp_store_op rfl 27 (.tmp 5) (.tmp 33) rfl (w23_.heap.size) 0 [.slice ab4 nb4 cb4, .int .u64 (mD.nv : Int), .slice ah4 mD.homes.length ch4, .slice as4 mD.seats.length cs4, .int .u64 (mD.ns : Int), .int .u64 (mD.sweeps : Int)] rfl rfl Tryz.sizeOf27 (al_one6 _ _ _ _ _ _ _ _ _ _ _ _) hs1.1 hs1.2 ?_
          have hz9 := hz_w27_.fillBox (C := [.slice none 0 0, .int .u64 0, .slice none 0 0, .slice none 0 0, .int .u64 0, .int .u64 0]) 0 rfl [.slice ab4 nb4 cb4, .int .u64 (mD.nv : Int), .slice ah4 mD.homes.length ch4, .slice as4 mD.seats.length cs4, .int .u64 (mD.ns : Int), .int .u64 (mD.sweeps : Int)] rfl
          have hSn := Lib.hid (hz9.box (B := TB) (C := [.slice ab3 nb3 cb3, .int .u64 (mlC.nv : Int), .slice ah3 mlC.homes.length ch3, .slice as3 mlC.seats.length cs3, .int .u64 (mlC.ns : Int), .int .u64 (mlC.sweeps : Int)].toArray) (t := 27) 5 rfl).1
          refine hK _ _ hSn ?_
          clear hK K
          try simp only [List.getElem_toArray, List.getElem_cons_succ, List.getElem_cons_zero, Act.put, List.setIfInBounds_toArray, List.set_cons_zero, List.set_cons_succ]
          refine Hd.done (by kernel_rfl) ?_
          simp only [List.drop_succ_cons, List.drop_zero]
          have hs2 := hz9.boxSome (C := [.int .i64 0, .int .u64 0, .int .u64 0, .slice none 0 0, .slice none 0 0]) 1 rfl
          refine wpList_store_cells rfl 35 (.tmp 6) (.tmp 34) rfl (w12_.heap.size) 0 [.int .i64 14, .int .u64 0, .int .u64 0, .slice aU4 0 cU4, .slice aM4 0 cM4] rfl rfl Tryz.sizeOf35 (al_one5 _ _ _ _ _ _ _) hs2.1 hs2.2 ?_
          have hzA := hz9.fillBox (C := [.int .i64 0, .int .u64 0, .int .u64 0, .slice none 0 0, .slice none 0 0]) 1 rfl [.int .i64 14, .int .u64 0, .int .u64 0, .slice aU4 0 cU4, .slice aM4 0 cM4] rfl
          have hrel : Hid (Al4 w2 w6 (boxT QB [.int .i64 0, .int .u64 0, .int .u64 2, .slice aU3 1 cU3, .slice aM3 0 cM3].toArray 35) (boxT PB [.int .i64 0, .int .u64 0, .int .u64 2, .slice aU2 0 cU2, .slice aM2 0 cM2].toArray 35) (boxT (TB + 1) [.int .i64 0, .int .u64 1, .int .u64 0, .slice aU 0 cU, .slice aM 0 cM].toArray 35) (boxT TB [.slice ab3 nb3 cb3, .int .u64 (mlC.nv : Int), .slice ah3 mlC.homes.length ch3, .slice as3 mlC.seats.length cs3, .int .u64 (mlC.ns : Int), .int .u64 (mlC.sweeps : Int)].toArray 27) _ _) := Lib.hid ⟨aU4, cU4, aM4, cM4, hzA.swap.sub (List.Sublist.cons_cons _ (List.Sublist.cons _ (List.Sublist.refl _))), bel_sets (bel_sets hbb_w27_ _ [.slice ab4 nb4 cb4, .int .u64 (mD.nv : Int), .slice ah4 mD.homes.length ch4, .slice as4 mD.seats.length cs4, .int .u64 (mD.ns : Int), .int .u64 (mD.sweeps : Int)] hbb_w23_.size) _ [.int .i64 14, .int .u64 0, .int .u64 0, .slice aU4 0 cU4, .slice aM4 0 cM4] hbb_w12_.size⟩
          clear hs1 hs2
          go_wp2_with fail
          go_meet
          case rel => exact ⟨w12_.heap.size, rfl, hrel⟩
    · go_simp
      have hz_w28_ := hzd.newBox [.slice none 0 0, .int .u64 0, .slice none 0 0, .slice none 0 0, .int .u64 0, .int .u64 0].toArray 27
      have hb_w28_ : Below _ Wd _ := (Below.refl _ _).alloc (Nat.le_refl _) (.cells [.slice none 0 0, .int .u64 0, .slice none 0 0, .slice none 0 0, .int .u64 0, .int .u64 0].toArray 27)
      have hv_w28_ := hvd.below hb_w28_
      have hbb_w28_ := hbd.trans (hb_w28_.mono hbd.size)
      generalize (Wd.alloc (.cells [.slice none 0 0, .int .u64 0, .slice none 0 0, .slice none 0 0, .int .u64 0, .int .u64 0].toArray 27)) = w28_ at hz_w28_ hb_w28_ hv_w28_ hbb_w28_ ⊢
      have hSn := Lib.hid (hz_w28_.box 4 rfl).1
      refine hK _ _ hSn ?_
      clear hK K
      try simp only [List.getElem_toArray, List.getElem_cons_succ, List.getElem_cons_zero, Act.put, List.setIfInBounds_toArray, List.set_cons_zero, List.set_cons_succ]
      refine Hd.two (i := 1) (k := 8) rfl rfl (by kernel_rfl) (fun K hK => ?_) (fun K hK => ?_)
      · go_simp
        refine (hash_any _).mono ?_
        rintro e w29_ ⟨rfl, hb_w29_⟩
        dsimp only
        have hz_w29_ := hz_w28_.below hb_w29_.out
        have hv_w29_ := hv_w28_.below hb_w29_.out
        have hbb_w29_ := hbb_w28_.trans (hb_w29_.out.mono hbb_w28_.size)
        have hSn := Lib.hid (hz_w29_.box 4 rfl).1
        refine hK _ _ hSn ?_
        clear hK K
        try simp only [List.getElem_toArray, List.getElem_cons_succ, List.getElem_cons_zero, Act.put, List.setIfInBounds_toArray, List.set_cons_zero, List.set_cons_succ]
        refine Hd.take (i := 2) (v := ?tv271) hok rfl (by kernel_rfl) (fun _ _ _ h => h) (Or.inl ⟨by rfl, ?ty271⟩) (by assumption) ?tr271
        case ty271 => (intro w hSw; (try dsimp only at hSw); go_simp; (try with_reducible rfl))
        try simp only [List.getElem_toArray, List.getElem_cons_succ, List.getElem_cons_zero, Act.put, List.setIfInBounds_toArray, List.set_cons_zero, List.set_cons_succ]
        refine Hd.two (i := 3) (k := 8) rfl rfl (by kernel_rfl) (fun K hK => ?_) (fun K hK => ?_)
        · go_simp
          refine (apply_lit _ hv_w29_.now stC okC rfl rfl hmD.out).mono ?_
          rintro e w30_ ⟨vD, oD, rfl, hvD, hoD, hb_w30_⟩
          dsimp only
          obtain ⟨ab4, cb4, nb4, ah4, ch4, as4, cs4, rfl⟩ := hvD.out.now.out_
          obtain ⟨aU4, cU4, aM4, cM4, rfl⟩ := hoD.out.now.out_
          clear hvD hoD
          have hz_w30_ := hz_w29_.below hb_w30_.out
          have hv_w30_ := hv_w29_.below hb_w30_.out
          have hbb_w30_ := hbb_w29_.trans (hb_w30_.out.mono hbb_w29_.size)
          have hSn := Lib.hid (hz_w30_.box 4 rfl).1
          refine hK _ _ hSn ?_
          clear hK K
          try simp only [List.getElem_toArray, List.getElem_cons_succ, List.getElem_cons_zero, Act.put, List.setIfInBounds_toArray, List.set_cons_zero, List.set_cons_succ]
          refine Hd.take (i := 4) (v := ?tv272) hok rfl (by kernel_rfl) (fun _ _ _ h => h) (Or.inl ⟨by rfl, ?ty272⟩) (by assumption) ?tr272
          case ty272 => (intro w hSw; (try dsimp only at hSw); go_simp; (try with_reducible rfl))
          try simp only [List.getElem_toArray, List.getElem_cons_succ, List.getElem_cons_zero, Act.put, List.setIfInBounds_toArray, List.set_cons_zero, List.set_cons_succ]
          refine Hd.take (i := 5) (v := ?tv273) hok rfl (by kernel_rfl) (fun _ _ _ h => h) (Or.inl ⟨by rfl, ?ty273⟩) (by assumption) ?tr273
          case ty273 => (intro w hSw; (try dsimp only at hSw); go_simp; (try with_reducible rfl))
          try simp only [List.getElem_toArray, List.getElem_cons_succ, List.getElem_cons_zero, Act.put, List.setIfInBounds_toArray, List.set_cons_zero, List.set_cons_succ]
          refine Hd.take (i := 6) (v := ?tv274) hok rfl (by kernel_rfl) (fun _ _ _ h => h) (Or.inl ⟨by rfl, ?ty274⟩) (by assumption) ?tr274
          case ty274 => (intro w hSw; (try dsimp only at hSw); go_simp; (try with_reducible rfl))
          try simp only [List.getElem_toArray, List.getElem_cons_succ, List.getElem_cons_zero, Act.put, List.setIfInBounds_toArray, List.set_cons_zero, List.set_cons_succ]
          refine Hd.one (i := 8) rfl (by kernel_rfl) (fun K hK => ?_)
          go_simp
          have hz_w31_ := hz_w30_.newBox [.int .i64 0, .int .u64 0, .int .u64 0, .slice none 0 0, .slice none 0 0].toArray 35
          have hb_w31_ : Below _ w30_ _ := (Below.refl _ _).alloc (Nat.le_refl _) (.cells [.int .i64 0, .int .u64 0, .int .u64 0, .slice none 0 0, .slice none 0 0].toArray 35)
          have hv_w31_ := hv_w30_.below hb_w31_
          have hbb_w31_ := hbb_w30_.trans (hb_w31_.mono hbb_w30_.size)
          generalize (w30_.alloc (.cells [.int .i64 0, .int .u64 0, .int .u64 0, .slice none 0 0, .slice none 0 0].toArray 35)) = w31_ at hz_w31_ hb_w31_ hv_w31_ hbb_w31_ ⊢
          have hSn := Lib.hid (hz_w31_.box 5 rfl).1
          refine hK _ _ hSn ?_
          clear hK K
          try simp only [List.getElem_toArray, List.getElem_cons_succ, List.getElem_cons_zero, Act.put, List.setIfInBounds_toArray, List.set_cons_zero, List.set_cons_succ]
          refine Hd.one (i := 9) rfl (by kernel_rfl) (fun K hK => ?_)
          have hs1 := hz_w31_.boxSome (C := [.slice none 0 0, .int .u64 0, .slice none 0 0, .slice none 0 0, .int .u64 0, .int .u64 0]) 1 rfl
          refine wp_store_op rfl 27 (.tmp 5) (.tmp 33) rfl (Wd.heap.size) 0 [.slice ab4 nb4 cb4, .int .u64 (mD.nv : Int), .slice ah4 mD.homes.length ch4, .slice as4 mD.seats.length cs4, .int .u64 (mD.ns : Int), .int .u64 (mD.sweeps : Int)] rfl rfl Tryz.sizeOf27 (al_one6 _ _ _ _ _ _ _ _ _ _ _ _) hs1.1 hs1.2 ?_
          have hz9 := hz_w31_.fillBox (C := [.slice none 0 0, .int .u64 0, .slice none 0 0, .slice none 0 0, .int .u64 0, .int .u64 0]) 1 rfl [.slice ab4 nb4 cb4, .int .u64 (mD.nv : Int), .slice ah4 mD.homes.length ch4, .slice as4 mD.seats.length cs4, .int .u64 (mD.ns : Int), .int .u64 (mD.sweeps : Int)] rfl
          have hSn := Lib.hid (hz9.box (B := TB) (C := [.slice ab3 nb3 cb3, .int .u64 (mlC.nv : Int), .slice ah3 mlC.homes.length ch3, .slice as3 mlC.seats.length cs3, .int .u64 (mlC.ns : Int), .int .u64 (mlC.sweeps : Int)].toArray) (t := 27) 5 rfl).1
          refine hK _ _ hSn ?_
          clear hK K
          try simp only [List.getElem_toArray, List.getElem_cons_succ, List.getElem_cons_zero, Act.put, List.setIfInBounds_toArray, List.set_cons_zero, List.set_cons_succ]
          refine Hd.done (by kernel_rfl) ?_
          simp only [List.drop_succ_cons, List.drop_zero]
          have hs2 := hz9.boxSome (C := [.int .i64 0, .int .u64 0, .int .u64 0, .slice none 0 0, .slice none 0 0]) 0 rfl
          refine wpList_store_cells rfl 35 (.tmp 6) (.tmp 34) rfl (w30_.heap.size) 0 [.int .i64 14, .int .u64 0, .int .u64 0, .slice aU4 0 cU4, .slice aM4 0 cM4] rfl rfl Tryz.sizeOf35 (al_one5 _ _ _ _ _ _ _) hs2.1 hs2.2 ?_
          have hzA := hz9.fillBox (C := [.int .i64 0, .int .u64 0, .int .u64 0, .slice none 0 0, .slice none 0 0]) 0 rfl [.int .i64 14, .int .u64 0, .int .u64 0, .slice aU4 0 cU4, .slice aM4 0 cM4] rfl
          have hrel : Hid (Al4 w2 w6 (boxT QB [.int .i64 0, .int .u64 0, .int .u64 2, .slice aU3 1 cU3, .slice aM3 0 cM3].toArray 35) (boxT PB [.int .i64 0, .int .u64 0, .int .u64 2, .slice aU2 0 cU2, .slice aM2 0 cM2].toArray 35) (boxT (TB + 1) [.int .i64 0, .int .u64 1, .int .u64 0, .slice aU 0 cU, .slice aM 0 cM].toArray 35) (boxT TB [.slice ab3 nb3 cb3, .int .u64 (mlC.nv : Int), .slice ah3 mlC.homes.length ch3, .slice as3 mlC.seats.length cs3, .int .u64 (mlC.ns : Int), .int .u64 (mlC.sweeps : Int)].toArray 27) _ _) := Lib.hid ⟨aU4, cU4, aM4, cM4, hzA.sub (List.Sublist.cons_cons _ (List.Sublist.cons _ (List.Sublist.refl _))), bel_sets (bel_sets hbb_w31_ _ [.slice ab4 nb4 cb4, .int .u64 (mD.nv : Int), .slice ah4 mD.homes.length ch4, .slice as4 mD.seats.length cs4, .int .u64 (mD.ns : Int), .int .u64 (mD.sweeps : Int)] hbd.size) _ [.int .i64 14, .int .u64 0, .int .u64 0, .slice aU4 0 cU4, .slice aM4 0 cM4] hbb_w30_.size⟩
          clear hs1 hs2
          go_wp2_with fail
          go_meet
          case rel => exact ⟨w30_.heap.size, rfl, hrel⟩
        · go_simp
          have hz_w32_ := hz_w29_.newBox [.int .i64 0, .int .u64 0, .int .u64 0, .slice none 0 0, .slice none 0 0].toArray 35
          have hb_w32_ : Below _ w29_ _ := (Below.refl _ _).alloc (Nat.le_refl _) (.cells [.int .i64 0, .int .u64 0, .int .u64 0, .slice none 0 0, .slice none 0 0].toArray 35)
          have hv_w32_ := hv_w29_.below hb_w32_
          have hbb_w32_ := hbb_w29_.trans (hb_w32_.mono hbb_w29_.size)
          generalize (w29_.alloc (.cells [.int .i64 0, .int .u64 0, .int .u64 0, .slice none 0 0, .slice none 0 0].toArray 35)) = w32_ at hz_w32_ hb_w32_ hv_w32_ hbb_w32_ ⊢
          have hSn := Lib.hid (hz_w32_.box 5 rfl).1
          refine hK _ _ hSn ?_
          clear hK K
          try simp only [List.getElem_toArray, List.getElem_cons_succ, List.getElem_cons_zero, Act.put, List.setIfInBounds_toArray, List.set_cons_zero, List.set_cons_succ]
          refine Hd.one (i := 3) rfl (by kernel_rfl) (fun K hK => ?_)
          go_simp
          refine (apply_lit _ hv_w32_.now stC okC rfl rfl hmD.out).mono ?_
          rintro e w33_ ⟨vD, oD, rfl, hvD, hoD, hb_w33_⟩
          dsimp only
          obtain ⟨ab4, cb4, nb4, ah4, ch4, as4, cs4, rfl⟩ := hvD.out.now.out_
          obtain ⟨aU4, cU4, aM4, cM4, rfl⟩ := hoD.out.now.out_
          clear hvD hoD
          have hz_w33_ := hz_w32_.below hb_w33_.out
          have hv_w33_ := hv_w32_.below hb_w33_.out
          have hbb_w33_ := hbb_w32_.trans (hb_w33_.out.mono hbb_w32_.size)
          have hSn := Lib.hid (hz_w33_.box 5 rfl).1
          refine hK _ _ hSn ?_
          clear hK K
          try simp only [List.getElem_toArray, List.getElem_cons_succ, List.getElem_cons_zero, Act.put, List.setIfInBounds_toArray, List.set_cons_zero, List.set_cons_succ]
          refine Hd.take (i := 4) (v := ?tv275) hok rfl (by kernel_rfl) (fun _ _ _ h => h) (Or.inl ⟨by rfl, ?ty275⟩) (by assumption) ?tr275
          case ty275 => (intro w hSw; (try dsimp only at hSw); go_simp; (try with_reducible rfl))
          try simp only [List.getElem_toArray, List.getElem_cons_succ, List.getElem_cons_zero, Act.put, List.setIfInBounds_toArray, List.set_cons_zero, List.set_cons_succ]
          refine Hd.take (i := 5) (v := ?tv276) hok rfl (by kernel_rfl) (fun _ _ _ h => h) (Or.inl ⟨by rfl, ?ty276⟩) (by assumption) ?tr276
          case ty276 => (intro w hSw; (try dsimp only at hSw); go_simp; (try with_reducible rfl))
          try simp only [List.getElem_toArray, List.getElem_cons_succ, List.getElem_cons_zero, Act.put, List.setIfInBounds_toArray, List.set_cons_zero, List.set_cons_succ]
          refine Hd.take (i := 6) (v := ?tv277) hok rfl (by kernel_rfl) (fun _ _ _ h => h) (Or.inl ⟨by rfl, ?ty277⟩) (by assumption) ?tr277
          case ty277 => (intro w hSw; (try dsimp only at hSw); go_simp; (try with_reducible rfl))
          try simp only [List.getElem_toArray, List.getElem_cons_succ, List.getElem_cons_zero, Act.put, List.setIfInBounds_toArray, List.set_cons_zero, List.set_cons_succ]
          refine Hd.one (i := 9) rfl (by kernel_rfl) (fun K hK => ?_)
          have hs1 := hz_w33_.boxSome (C := [.slice none 0 0, .int .u64 0, .slice none 0 0, .slice none 0 0, .int .u64 0, .int .u64 0]) 1 rfl
          refine wp_store_op rfl 27 (.tmp 5) (.tmp 33) rfl (Wd.heap.size) 0 [.slice ab4 nb4 cb4, .int .u64 (mD.nv : Int), .slice ah4 mD.homes.length ch4, .slice as4 mD.seats.length cs4, .int .u64 (mD.ns : Int), .int .u64 (mD.sweeps : Int)] rfl rfl Tryz.sizeOf27 (al_one6 _ _ _ _ _ _ _ _ _ _ _ _) hs1.1 hs1.2 ?_
          have hz9 := hz_w33_.fillBox (C := [.slice none 0 0, .int .u64 0, .slice none 0 0, .slice none 0 0, .int .u64 0, .int .u64 0]) 1 rfl [.slice ab4 nb4 cb4, .int .u64 (mD.nv : Int), .slice ah4 mD.homes.length ch4, .slice as4 mD.seats.length cs4, .int .u64 (mD.ns : Int), .int .u64 (mD.sweeps : Int)] rfl
          have hSn := Lib.hid (hz9.box (B := TB) (C := [.slice ab3 nb3 cb3, .int .u64 (mlC.nv : Int), .slice ah3 mlC.homes.length ch3, .slice as3 mlC.seats.length cs3, .int .u64 (mlC.ns : Int), .int .u64 (mlC.sweeps : Int)].toArray) (t := 27) 5 rfl).1
          refine hK _ _ hSn ?_
          clear hK K
          try simp only [List.getElem_toArray, List.getElem_cons_succ, List.getElem_cons_zero, Act.put, List.setIfInBounds_toArray, List.set_cons_zero, List.set_cons_succ]
          refine Hd.done (by kernel_rfl) ?_
          simp only [List.drop_succ_cons, List.drop_zero]
          have hs2 := hz9.boxSome (C := [.int .i64 0, .int .u64 0, .int .u64 0, .slice none 0 0, .slice none 0 0]) 0 rfl
          refine wpList_store_cells rfl 35 (.tmp 6) (.tmp 34) rfl (w29_.heap.size) 0 [.int .i64 14, .int .u64 0, .int .u64 0, .slice aU4 0 cU4, .slice aM4 0 cM4] rfl rfl Tryz.sizeOf35 (al_one5 _ _ _ _ _ _ _) hs2.1 hs2.2 ?_
          have hzA := hz9.fillBox (C := [.int .i64 0, .int .u64 0, .int .u64 0, .slice none 0 0, .slice none 0 0]) 0 rfl [.int .i64 14, .int .u64 0, .int .u64 0, .slice aU4 0 cU4, .slice aM4 0 cM4] rfl
          have hrel : Hid (Al4 w2 w6 (boxT QB [.int .i64 0, .int .u64 0, .int .u64 2, .slice aU3 1 cU3, .slice aM3 0 cM3].toArray 35) (boxT PB [.int .i64 0, .int .u64 0, .int .u64 2, .slice aU2 0 cU2, .slice aM2 0 cM2].toArray 35) (boxT (TB + 1) [.int .i64 0, .int .u64 1, .int .u64 0, .slice aU 0 cU, .slice aM 0 cM].toArray 35) (boxT TB [.slice ab3 nb3 cb3, .int .u64 (mlC.nv : Int), .slice ah3 mlC.homes.length ch3, .slice as3 mlC.seats.length cs3, .int .u64 (mlC.ns : Int), .int .u64 (mlC.sweeps : Int)].toArray 27) _ _) := Lib.hid ⟨aU4, cU4, aM4, cM4, hzA.sub (List.Sublist.cons_cons _ (List.Sublist.cons _ (List.Sublist.refl _))), bel_sets (bel_sets hbb_w33_ _ [.slice ab4 nb4 cb4, .int .u64 (mD.nv : Int), .slice ah4 mD.homes.length ch4, .slice as4 mD.seats.length cs4, .int .u64 (mD.ns : Int), .int .u64 (mD.sweeps : Int)] hbd.size) _ [.int .i64 14, .int .u64 0, .int .u64 0, .slice aU4 0 cU4, .slice aM4 0 cM4] hbb_w29_.size⟩
          clear hs1 hs2
          go_wp2_with fail
          go_meet
          case rel => exact ⟨w29_.heap.size, rfl, hrel⟩
      · go_simp
        have hz_w34_ := hz_w28_.newBox [.int .i64 0, .int .u64 0, .int .u64 0, .slice none 0 0, .slice none 0 0].toArray 35
        have hb_w34_ : Below _ w28_ _ := (Below.refl _ _).alloc (Nat.le_refl _) (.cells [.int .i64 0, .int .u64 0, .int .u64 0, .slice none 0 0, .slice none 0 0].toArray 35)
        have hv_w34_ := hv_w28_.below hb_w34_
        have hbb_w34_ := hbb_w28_.trans (hb_w34_.mono hbb_w28_.size)
        generalize (w28_.alloc (.cells [.int .i64 0, .int .u64 0, .int .u64 0, .slice none 0 0, .slice none 0 0].toArray 35)) = w34_ at hz_w34_ hb_w34_ hv_w34_ hbb_w34_ ⊢
        have hSn := Lib.hid (hz_w34_.box 5 rfl).1
        refine hK _ _ hSn ?_
        clear hK K
        try simp only [List.getElem_toArray, List.getElem_cons_succ, List.getElem_cons_zero, Act.put, List.setIfInBounds_toArray, List.set_cons_zero, List.set_cons_succ]
        refine Hd.one (i := 1) rfl (by kernel_rfl) (fun K hK => ?_)
        go_simp
        refine (hash_any _).mono ?_
        rintro e w35_ ⟨rfl, hb_w35_⟩
        dsimp only
        have hz_w35_ := hz_w34_.below hb_w35_.out
        have hv_w35_ := hv_w34_.below hb_w35_.out
        have hbb_w35_ := hbb_w34_.trans (hb_w35_.out.mono hbb_w34_.size)
        have hSn := Lib.hid (hz_w35_.box 5 rfl).1
        refine hK _ _ hSn ?_
        clear hK K
        try simp only [List.getElem_toArray, List.getElem_cons_succ, List.getElem_cons_zero, Act.put, List.setIfInBounds_toArray, List.set_cons_zero, List.set_cons_succ]
        refine Hd.take (i := 2) (v := ?tv278) hok rfl (by kernel_rfl) (fun _ _ _ h => h) (Or.inl ⟨by rfl, ?ty278⟩) (by assumption) ?tr278
        case ty278 => (intro w hSw; (try dsimp only at hSw); go_simp; (try with_reducible rfl))
        try simp only [List.getElem_toArray, List.getElem_cons_succ, List.getElem_cons_zero, Act.put, List.setIfInBounds_toArray, List.set_cons_zero, List.set_cons_succ]
        refine Hd.one (i := 3) rfl (by kernel_rfl) (fun K hK => ?_)
        go_simp
        refine (apply_lit _ hv_w35_.now stC okC rfl rfl hmD.out).mono ?_
        rintro e w36_ ⟨vD, oD, rfl, hvD, hoD, hb_w36_⟩
        dsimp only
        obtain ⟨ab4, cb4, nb4, ah4, ch4, as4, cs4, rfl⟩ := hvD.out.now.out_
        obtain ⟨aU4, cU4, aM4, cM4, rfl⟩ := hoD.out.now.out_
        clear hvD hoD
        have hz_w36_ := hz_w35_.below hb_w36_.out
        have hv_w36_ := hv_w35_.below hb_w36_.out
        have hbb_w36_ := hbb_w35_.trans (hb_w36_.out.mono hbb_w35_.size)
        have hSn := Lib.hid (hz_w36_.box 5 rfl).1
        refine hK _ _ hSn ?_
        clear hK K
        try simp only [List.getElem_toArray, List.getElem_cons_succ, List.getElem_cons_zero, Act.put, List.setIfInBounds_toArray, List.set_cons_zero, List.set_cons_succ]
        refine Hd.take (i := 4) (v := ?tv279) hok rfl (by kernel_rfl) (fun _ _ _ h => h) (Or.inl ⟨by rfl, ?ty279⟩) (by assumption) ?tr279
        case ty279 => (intro w hSw; (try dsimp only at hSw); go_simp; (try with_reducible rfl))
        try simp only [List.getElem_toArray, List.getElem_cons_succ, List.getElem_cons_zero, Act.put, List.setIfInBounds_toArray, List.set_cons_zero, List.set_cons_succ]
        refine Hd.take (i := 5) (v := ?tv280) hok rfl (by kernel_rfl) (fun _ _ _ h => h) (Or.inl ⟨by rfl, ?ty280⟩) (by assumption) ?tr280
        case ty280 => (intro w hSw; (try dsimp only at hSw); go_simp; (try with_reducible rfl))
        try simp only [List.getElem_toArray, List.getElem_cons_succ, List.getElem_cons_zero, Act.put, List.setIfInBounds_toArray, List.set_cons_zero, List.set_cons_succ]
        refine Hd.take (i := 6) (v := ?tv281) hok rfl (by kernel_rfl) (fun _ _ _ h => h) (Or.inl ⟨by rfl, ?ty281⟩) (by assumption) ?tr281
        case ty281 => (intro w hSw; (try dsimp only at hSw); go_simp; (try with_reducible rfl))
        try simp only [List.getElem_toArray, List.getElem_cons_succ, List.getElem_cons_zero, Act.put, List.setIfInBounds_toArray, List.set_cons_zero, List.set_cons_succ]
        refine Hd.one (i := 9) rfl (by kernel_rfl) (fun K hK => ?_)
        have hs1 := hz_w36_.boxSome (C := [.slice none 0 0, .int .u64 0, .slice none 0 0, .slice none 0 0, .int .u64 0, .int .u64 0]) 1 rfl
        refine wp_store_op rfl 27 (.tmp 5) (.tmp 33) rfl (Wd.heap.size) 0 [.slice ab4 nb4 cb4, .int .u64 (mD.nv : Int), .slice ah4 mD.homes.length ch4, .slice as4 mD.seats.length cs4, .int .u64 (mD.ns : Int), .int .u64 (mD.sweeps : Int)] rfl rfl Tryz.sizeOf27 (al_one6 _ _ _ _ _ _ _ _ _ _ _ _) hs1.1 hs1.2 ?_
        have hz9 := hz_w36_.fillBox (C := [.slice none 0 0, .int .u64 0, .slice none 0 0, .slice none 0 0, .int .u64 0, .int .u64 0]) 1 rfl [.slice ab4 nb4 cb4, .int .u64 (mD.nv : Int), .slice ah4 mD.homes.length ch4, .slice as4 mD.seats.length cs4, .int .u64 (mD.ns : Int), .int .u64 (mD.sweeps : Int)] rfl
        have hSn := Lib.hid (hz9.box (B := TB) (C := [.slice ab3 nb3 cb3, .int .u64 (mlC.nv : Int), .slice ah3 mlC.homes.length ch3, .slice as3 mlC.seats.length cs3, .int .u64 (mlC.ns : Int), .int .u64 (mlC.sweeps : Int)].toArray) (t := 27) 5 rfl).1
        refine hK _ _ hSn ?_
        clear hK K
        try simp only [List.getElem_toArray, List.getElem_cons_succ, List.getElem_cons_zero, Act.put, List.setIfInBounds_toArray, List.set_cons_zero, List.set_cons_succ]
        refine Hd.done (by kernel_rfl) ?_
        simp only [List.drop_succ_cons, List.drop_zero]
        have hs2 := hz9.boxSome (C := [.int .i64 0, .int .u64 0, .int .u64 0, .slice none 0 0, .slice none 0 0]) 0 rfl
        refine wpList_store_cells rfl 35 (.tmp 6) (.tmp 34) rfl (w28_.heap.size) 0 [.int .i64 14, .int .u64 0, .int .u64 0, .slice aU4 0 cU4, .slice aM4 0 cM4] rfl rfl Tryz.sizeOf35 (al_one5 _ _ _ _ _ _ _) hs2.1 hs2.2 ?_
        have hzA := hz9.fillBox (C := [.int .i64 0, .int .u64 0, .int .u64 0, .slice none 0 0, .slice none 0 0]) 0 rfl [.int .i64 14, .int .u64 0, .int .u64 0, .slice aU4 0 cU4, .slice aM4 0 cM4] rfl
        have hrel : Hid (Al4 w2 w6 (boxT QB [.int .i64 0, .int .u64 0, .int .u64 2, .slice aU3 1 cU3, .slice aM3 0 cM3].toArray 35) (boxT PB [.int .i64 0, .int .u64 0, .int .u64 2, .slice aU2 0 cU2, .slice aM2 0 cM2].toArray 35) (boxT (TB + 1) [.int .i64 0, .int .u64 1, .int .u64 0, .slice aU 0 cU, .slice aM 0 cM].toArray 35) (boxT TB [.slice ab3 nb3 cb3, .int .u64 (mlC.nv : Int), .slice ah3 mlC.homes.length ch3, .slice as3 mlC.seats.length cs3, .int .u64 (mlC.ns : Int), .int .u64 (mlC.sweeps : Int)].toArray 27) _ _) := Lib.hid ⟨aU4, cU4, aM4, cM4, hzA.sub (List.Sublist.cons_cons _ (List.Sublist.cons _ (List.Sublist.refl _))), bel_sets (bel_sets hbb_w36_ _ [.slice ab4 nb4 cb4, .int .u64 (mD.nv : Int), .slice ah4 mD.homes.length ch4, .slice as4 mD.seats.length cs4, .int .u64 (mD.ns : Int), .int .u64 (mD.sweeps : Int)] hbd.size) _ [.int .i64 14, .int .u64 0, .int .u64 0, .slice aU4 0 cU4, .slice aM4 0 cM4] hbb_w28_.size⟩
        clear hs1 hs2
        go_wp2_with fail
        go_meet
        case rel => exact ⟨w28_.heap.size, rfl, hrel⟩
    · go_simp
      have hz_w37_ := hzd.newBox [.int .i64 0, .int .u64 0, .int .u64 0, .slice none 0 0, .slice none 0 0].toArray 35
      have hb_w37_ : Below _ Wd _ := (Below.refl _ _).alloc (Nat.le_refl _) (.cells [.int .i64 0, .int .u64 0, .int .u64 0, .slice none 0 0, .slice none 0 0].toArray 35)
      have hv_w37_ := hvd.below hb_w37_
      have hbb_w37_ := hbd.trans (hb_w37_.mono hbd.size)
      generalize (Wd.alloc (.cells [.int .i64 0, .int .u64 0, .int .u64 0, .slice none 0 0, .slice none 0 0].toArray 35)) = w37_ at hz_w37_ hb_w37_ hv_w37_ hbb_w37_ ⊢
      have hSn := Lib.hid (hz_w37_.box 4 rfl).1
      refine hK _ _ hSn ?_
      clear hK K
      try simp only [List.getElem_toArray, List.getElem_cons_succ, List.getElem_cons_zero, Act.put, List.setIfInBounds_toArray, List.set_cons_zero, List.set_cons_succ]
      refine Hd.two (i := 1) (k := 7) rfl rfl (by kernel_rfl) (fun K hK => ?_) (fun K hK => ?_)
      · go_simp
        refine (hash_any _).mono ?_
        rintro e w38_ ⟨rfl, hb_w38_⟩
        dsimp only
        have hz_w38_ := hz_w37_.below hb_w38_.out
        have hv_w38_ := hv_w37_.below hb_w38_.out
        have hbb_w38_ := hbb_w37_.trans (hb_w38_.out.mono hbb_w37_.size)
        have hSn := Lib.hid (hz_w38_.box 4 rfl).1
        refine hK _ _ hSn ?_
        clear hK K
        try simp only [List.getElem_toArray, List.getElem_cons_succ, List.getElem_cons_zero, Act.put, List.setIfInBounds_toArray, List.set_cons_zero, List.set_cons_succ]
        refine Hd.take (i := 2) (v := ?tv282) hok rfl (by kernel_rfl) (fun _ _ _ h => h) (Or.inl ⟨by rfl, ?ty282⟩) (by assumption) ?tr282
        case ty282 => (intro w hSw; (try dsimp only at hSw); go_simp; (try with_reducible rfl))
        try simp only [List.getElem_toArray, List.getElem_cons_succ, List.getElem_cons_zero, Act.put, List.setIfInBounds_toArray, List.set_cons_zero, List.set_cons_succ]
        refine Hd.two (i := 3) (k := 7) rfl rfl (by kernel_rfl) (fun K hK => ?_) (fun K hK => ?_)
        · go_simp
          refine (apply_lit _ hv_w38_.now stC okC rfl rfl hmD.out).mono ?_
          rintro e w39_ ⟨vD, oD, rfl, hvD, hoD, hb_w39_⟩
          dsimp only
          obtain ⟨ab4, cb4, nb4, ah4, ch4, as4, cs4, rfl⟩ := hvD.out.now.out_
          obtain ⟨aU4, cU4, aM4, cM4, rfl⟩ := hoD.out.now.out_
          clear hvD hoD
          have hz_w39_ := hz_w38_.below hb_w39_.out
          have hv_w39_ := hv_w38_.below hb_w39_.out
          have hbb_w39_ := hbb_w38_.trans (hb_w39_.out.mono hbb_w38_.size)
          have hSn := Lib.hid (hz_w39_.box 4 rfl).1
          refine hK _ _ hSn ?_
          clear hK K
          try simp only [List.getElem_toArray, List.getElem_cons_succ, List.getElem_cons_zero, Act.put, List.setIfInBounds_toArray, List.set_cons_zero, List.set_cons_succ]
          refine Hd.take (i := 4) (v := ?tv283) hok rfl (by kernel_rfl) (fun _ _ _ h => h) (Or.inl ⟨by rfl, ?ty283⟩) (by assumption) ?tr283
          case ty283 => (intro w hSw; (try dsimp only at hSw); go_simp; (try with_reducible rfl))
          try simp only [List.getElem_toArray, List.getElem_cons_succ, List.getElem_cons_zero, Act.put, List.setIfInBounds_toArray, List.set_cons_zero, List.set_cons_succ]
          refine Hd.take (i := 5) (v := ?tv284) hok rfl (by kernel_rfl) (fun _ _ _ h => h) (Or.inl ⟨by rfl, ?ty284⟩) (by assumption) ?tr284
          case ty284 => (intro w hSw; (try dsimp only at hSw); go_simp; (try with_reducible rfl))
          try simp only [List.getElem_toArray, List.getElem_cons_succ, List.getElem_cons_zero, Act.put, List.setIfInBounds_toArray, List.set_cons_zero, List.set_cons_succ]
          refine Hd.take (i := 6) (v := ?tv285) hok rfl (by kernel_rfl) (fun _ _ _ h => h) (Or.inl ⟨by rfl, ?ty285⟩) (by assumption) ?tr285
          case ty285 => (intro w hSw; (try dsimp only at hSw); go_simp; (try with_reducible rfl))
          try simp only [List.getElem_toArray, List.getElem_cons_succ, List.getElem_cons_zero, Act.put, List.setIfInBounds_toArray, List.set_cons_zero, List.set_cons_succ]
          refine Hd.one (i := 7) rfl (by kernel_rfl) (fun K hK => ?_)
          go_simp
          have hz_w40_ := hz_w39_.newBox [.slice none 0 0, .int .u64 0, .slice none 0 0, .slice none 0 0, .int .u64 0, .int .u64 0].toArray 27
          have hb_w40_ : Below _ w39_ _ := (Below.refl _ _).alloc (Nat.le_refl _) (.cells [.slice none 0 0, .int .u64 0, .slice none 0 0, .slice none 0 0, .int .u64 0, .int .u64 0].toArray 27)
          have hv_w40_ := hv_w39_.below hb_w40_
          have hbb_w40_ := hbb_w39_.trans (hb_w40_.mono hbb_w39_.size)
          generalize (w39_.alloc (.cells [.slice none 0 0, .int .u64 0, .slice none 0 0, .slice none 0 0, .int .u64 0, .int .u64 0].toArray 27)) = w40_ at hz_w40_ hb_w40_ hv_w40_ hbb_w40_ ⊢
          have hSn := Lib.hid (hz_w40_.box 5 rfl).1
          refine hK _ _ hSn ?_
          clear hK K
          try simp only [List.getElem_toArray, List.getElem_cons_succ, List.getElem_cons_zero, Act.put, List.setIfInBounds_toArray, List.set_cons_zero, List.set_cons_succ]
          refine Hd.one (i := 9) rfl (by kernel_rfl) (fun K hK => ?_)
          have hs1 := hz_w40_.boxSome (C := [.slice none 0 0, .int .u64 0, .slice none 0 0, .slice none 0 0, .int .u64 0, .int .u64 0]) 0 rfl
          refine wp_store_op rfl 27 (.tmp 5) (.tmp 33) rfl (w39_.heap.size) 0 [.slice ab4 nb4 cb4, .int .u64 (mD.nv : Int), .slice ah4 mD.homes.length ch4, .slice as4 mD.seats.length cs4, .int .u64 (mD.ns : Int), .int .u64 (mD.sweeps : Int)] rfl rfl Tryz.sizeOf27 (al_one6 _ _ _ _ _ _ _ _ _ _ _ _) hs1.1 hs1.2 ?_
          have hz9 := hz_w40_.fillBox (C := [.slice none 0 0, .int .u64 0, .slice none 0 0, .slice none 0 0, .int .u64 0, .int .u64 0]) 0 rfl [.slice ab4 nb4 cb4, .int .u64 (mD.nv : Int), .slice ah4 mD.homes.length ch4, .slice as4 mD.seats.length cs4, .int .u64 (mD.ns : Int), .int .u64 (mD.sweeps : Int)] rfl
          have hSn := Lib.hid (hz9.box (B := TB) (C := [.slice ab3 nb3 cb3, .int .u64 (mlC.nv : Int), .slice ah3 mlC.homes.length ch3, .slice as3 mlC.seats.length cs3, .int .u64 (mlC.ns : Int), .int .u64 (mlC.sweeps : Int)].toArray) (t := 27) 5 rfl).1
          refine hK _ _ hSn ?_
          clear hK K
          try simp only [List.getElem_toArray, List.getElem_cons_succ, List.getElem_cons_zero, Act.put, List.setIfInBounds_toArray, List.set_cons_zero, List.set_cons_succ]
          refine Hd.done (by kernel_rfl) ?_
          simp only [List.drop_succ_cons, List.drop_zero]
          have hs2 := hz9.boxSome (C := [.int .i64 0, .int .u64 0, .int .u64 0, .slice none 0 0, .slice none 0 0]) 1 rfl
          refine wpList_store_cells rfl 35 (.tmp 6) (.tmp 34) rfl (Wd.heap.size) 0 [.int .i64 14, .int .u64 0, .int .u64 0, .slice aU4 0 cU4, .slice aM4 0 cM4] rfl rfl Tryz.sizeOf35 (al_one5 _ _ _ _ _ _ _) hs2.1 hs2.2 ?_
          have hzA := hz9.fillBox (C := [.int .i64 0, .int .u64 0, .int .u64 0, .slice none 0 0, .slice none 0 0]) 1 rfl [.int .i64 14, .int .u64 0, .int .u64 0, .slice aU4 0 cU4, .slice aM4 0 cM4] rfl
          have hrel : Hid (Al4 w2 w6 (boxT QB [.int .i64 0, .int .u64 0, .int .u64 2, .slice aU3 1 cU3, .slice aM3 0 cM3].toArray 35) (boxT PB [.int .i64 0, .int .u64 0, .int .u64 2, .slice aU2 0 cU2, .slice aM2 0 cM2].toArray 35) (boxT (TB + 1) [.int .i64 0, .int .u64 1, .int .u64 0, .slice aU 0 cU, .slice aM 0 cM].toArray 35) (boxT TB [.slice ab3 nb3 cb3, .int .u64 (mlC.nv : Int), .slice ah3 mlC.homes.length ch3, .slice as3 mlC.seats.length cs3, .int .u64 (mlC.ns : Int), .int .u64 (mlC.sweeps : Int)].toArray 27) _ _) := Lib.hid ⟨aU4, cU4, aM4, cM4, hzA.swap.sub (List.Sublist.cons_cons _ (List.Sublist.cons _ (List.Sublist.refl _))), bel_sets (bel_sets hbb_w40_ _ [.slice ab4 nb4 cb4, .int .u64 (mD.nv : Int), .slice ah4 mD.homes.length ch4, .slice as4 mD.seats.length cs4, .int .u64 (mD.ns : Int), .int .u64 (mD.sweeps : Int)] hbb_w39_.size) _ [.int .i64 14, .int .u64 0, .int .u64 0, .slice aU4 0 cU4, .slice aM4 0 cM4] hbd.size⟩
          clear hs1 hs2
          go_wp2_with fail
          go_meet
          case rel => exact ⟨Wd.heap.size, rfl, hrel⟩
        · go_simp
          have hz_w41_ := hz_w38_.newBox [.slice none 0 0, .int .u64 0, .slice none 0 0, .slice none 0 0, .int .u64 0, .int .u64 0].toArray 27
          have hb_w41_ : Below _ w38_ _ := (Below.refl _ _).alloc (Nat.le_refl _) (.cells [.slice none 0 0, .int .u64 0, .slice none 0 0, .slice none 0 0, .int .u64 0, .int .u64 0].toArray 27)
          have hv_w41_ := hv_w38_.below hb_w41_
          have hbb_w41_ := hbb_w38_.trans (hb_w41_.mono hbb_w38_.size)
          generalize (w38_.alloc (.cells [.slice none 0 0, .int .u64 0, .slice none 0 0, .slice none 0 0, .int .u64 0, .int .u64 0].toArray 27)) = w41_ at hz_w41_ hb_w41_ hv_w41_ hbb_w41_ ⊢
          have hSn := Lib.hid (hz_w41_.box 5 rfl).1
          refine hK _ _ hSn ?_
          clear hK K
          try simp only [List.getElem_toArray, List.getElem_cons_succ, List.getElem_cons_zero, Act.put, List.setIfInBounds_toArray, List.set_cons_zero, List.set_cons_succ]
          refine Hd.one (i := 3) rfl (by kernel_rfl) (fun K hK => ?_)
          go_simp
          refine (apply_lit _ hv_w41_.now stC okC rfl rfl hmD.out).mono ?_
          rintro e w42_ ⟨vD, oD, rfl, hvD, hoD, hb_w42_⟩
          dsimp only
          obtain ⟨ab4, cb4, nb4, ah4, ch4, as4, cs4, rfl⟩ := hvD.out.now.out_
          obtain ⟨aU4, cU4, aM4, cM4, rfl⟩ := hoD.out.now.out_
          clear hvD hoD
          have hz_w42_ := hz_w41_.below hb_w42_.out
          have hv_w42_ := hv_w41_.below hb_w42_.out
          have hbb_w42_ := hbb_w41_.trans (hb_w42_.out.mono hbb_w41_.size)
          have hSn := Lib.hid (hz_w42_.box 5 rfl).1
          refine hK _ _ hSn ?_
          clear hK K
          try simp only [List.getElem_toArray, List.getElem_cons_succ, List.getElem_cons_zero, Act.put, List.setIfInBounds_toArray, List.set_cons_zero, List.set_cons_succ]
          refine Hd.take (i := 4) (v := ?tv286) hok rfl (by kernel_rfl) (fun _ _ _ h => h) (Or.inl ⟨by rfl, ?ty286⟩) (by assumption) ?tr286
          case ty286 => (intro w hSw; (try dsimp only at hSw); go_simp; (try with_reducible rfl))
          try simp only [List.getElem_toArray, List.getElem_cons_succ, List.getElem_cons_zero, Act.put, List.setIfInBounds_toArray, List.set_cons_zero, List.set_cons_succ]
          refine Hd.take (i := 5) (v := ?tv287) hok rfl (by kernel_rfl) (fun _ _ _ h => h) (Or.inl ⟨by rfl, ?ty287⟩) (by assumption) ?tr287
          case ty287 => (intro w hSw; (try dsimp only at hSw); go_simp; (try with_reducible rfl))
          try simp only [List.getElem_toArray, List.getElem_cons_succ, List.getElem_cons_zero, Act.put, List.setIfInBounds_toArray, List.set_cons_zero, List.set_cons_succ]
          refine Hd.take (i := 6) (v := ?tv288) hok rfl (by kernel_rfl) (fun _ _ _ h => h) (Or.inl ⟨by rfl, ?ty288⟩) (by assumption) ?tr288
          case ty288 => (intro w hSw; (try dsimp only at hSw); go_simp; (try with_reducible rfl))
          try simp only [List.getElem_toArray, List.getElem_cons_succ, List.getElem_cons_zero, Act.put, List.setIfInBounds_toArray, List.set_cons_zero, List.set_cons_succ]
          refine Hd.one (i := 9) rfl (by kernel_rfl) (fun K hK => ?_)
          have hs1 := hz_w42_.boxSome (C := [.slice none 0 0, .int .u64 0, .slice none 0 0, .slice none 0 0, .int .u64 0, .int .u64 0]) 0 rfl
          refine wp_store_op rfl 27 (.tmp 5) (.tmp 33) rfl (w38_.heap.size) 0 [.slice ab4 nb4 cb4, .int .u64 (mD.nv : Int), .slice ah4 mD.homes.length ch4, .slice as4 mD.seats.length cs4, .int .u64 (mD.ns : Int), .int .u64 (mD.sweeps : Int)] rfl rfl Tryz.sizeOf27 (al_one6 _ _ _ _ _ _ _ _ _ _ _ _) hs1.1 hs1.2 ?_
          have hz9 := hz_w42_.fillBox (C := [.slice none 0 0, .int .u64 0, .slice none 0 0, .slice none 0 0, .int .u64 0, .int .u64 0]) 0 rfl [.slice ab4 nb4 cb4, .int .u64 (mD.nv : Int), .slice ah4 mD.homes.length ch4, .slice as4 mD.seats.length cs4, .int .u64 (mD.ns : Int), .int .u64 (mD.sweeps : Int)] rfl
          have hSn := Lib.hid (hz9.box (B := TB) (C := [.slice ab3 nb3 cb3, .int .u64 (mlC.nv : Int), .slice ah3 mlC.homes.length ch3, .slice as3 mlC.seats.length cs3, .int .u64 (mlC.ns : Int), .int .u64 (mlC.sweeps : Int)].toArray) (t := 27) 5 rfl).1
          refine hK _ _ hSn ?_
          clear hK K
          try simp only [List.getElem_toArray, List.getElem_cons_succ, List.getElem_cons_zero, Act.put, List.setIfInBounds_toArray, List.set_cons_zero, List.set_cons_succ]
          refine Hd.done (by kernel_rfl) ?_
          simp only [List.drop_succ_cons, List.drop_zero]
          have hs2 := hz9.boxSome (C := [.int .i64 0, .int .u64 0, .int .u64 0, .slice none 0 0, .slice none 0 0]) 1 rfl
          refine wpList_store_cells rfl 35 (.tmp 6) (.tmp 34) rfl (Wd.heap.size) 0 [.int .i64 14, .int .u64 0, .int .u64 0, .slice aU4 0 cU4, .slice aM4 0 cM4] rfl rfl Tryz.sizeOf35 (al_one5 _ _ _ _ _ _ _) hs2.1 hs2.2 ?_
          have hzA := hz9.fillBox (C := [.int .i64 0, .int .u64 0, .int .u64 0, .slice none 0 0, .slice none 0 0]) 1 rfl [.int .i64 14, .int .u64 0, .int .u64 0, .slice aU4 0 cU4, .slice aM4 0 cM4] rfl
          have hrel : Hid (Al4 w2 w6 (boxT QB [.int .i64 0, .int .u64 0, .int .u64 2, .slice aU3 1 cU3, .slice aM3 0 cM3].toArray 35) (boxT PB [.int .i64 0, .int .u64 0, .int .u64 2, .slice aU2 0 cU2, .slice aM2 0 cM2].toArray 35) (boxT (TB + 1) [.int .i64 0, .int .u64 1, .int .u64 0, .slice aU 0 cU, .slice aM 0 cM].toArray 35) (boxT TB [.slice ab3 nb3 cb3, .int .u64 (mlC.nv : Int), .slice ah3 mlC.homes.length ch3, .slice as3 mlC.seats.length cs3, .int .u64 (mlC.ns : Int), .int .u64 (mlC.sweeps : Int)].toArray 27) _ _) := Lib.hid ⟨aU4, cU4, aM4, cM4, hzA.swap.sub (List.Sublist.cons_cons _ (List.Sublist.cons _ (List.Sublist.refl _))), bel_sets (bel_sets hbb_w42_ _ [.slice ab4 nb4 cb4, .int .u64 (mD.nv : Int), .slice ah4 mD.homes.length ch4, .slice as4 mD.seats.length cs4, .int .u64 (mD.ns : Int), .int .u64 (mD.sweeps : Int)] hbb_w38_.size) _ [.int .i64 14, .int .u64 0, .int .u64 0, .slice aU4 0 cU4, .slice aM4 0 cM4] hbd.size⟩
          clear hs1 hs2
          go_wp2_with fail
          go_meet
          case rel => exact ⟨Wd.heap.size, rfl, hrel⟩
      · go_simp
        have hz_w43_ := hz_w37_.newBox [.slice none 0 0, .int .u64 0, .slice none 0 0, .slice none 0 0, .int .u64 0, .int .u64 0].toArray 27
        have hb_w43_ : Below _ w37_ _ := (Below.refl _ _).alloc (Nat.le_refl _) (.cells [.slice none 0 0, .int .u64 0, .slice none 0 0, .slice none 0 0, .int .u64 0, .int .u64 0].toArray 27)
        have hv_w43_ := hv_w37_.below hb_w43_
        have hbb_w43_ := hbb_w37_.trans (hb_w43_.mono hbb_w37_.size)
        generalize (w37_.alloc (.cells [.slice none 0 0, .int .u64 0, .slice none 0 0, .slice none 0 0, .int .u64 0, .int .u64 0].toArray 27)) = w43_ at hz_w43_ hb_w43_ hv_w43_ hbb_w43_ ⊢
        have hSn := Lib.hid (hz_w43_.box 5 rfl).1
        refine hK _ _ hSn ?_
        clear hK K
        try simp only [List.getElem_toArray, List.getElem_cons_succ, List.getElem_cons_zero, Act.put, List.setIfInBounds_toArray, List.set_cons_zero, List.set_cons_succ]
        refine Hd.one (i := 1) rfl (by kernel_rfl) (fun K hK => ?_)
        go_simp
        refine (hash_any _).mono ?_
        rintro e w44_ ⟨rfl, hb_w44_⟩
        dsimp only
        have hz_w44_ := hz_w43_.below hb_w44_.out
        have hv_w44_ := hv_w43_.below hb_w44_.out
        have hbb_w44_ := hbb_w43_.trans (hb_w44_.out.mono hbb_w43_.size)
        have hSn := Lib.hid (hz_w44_.box 5 rfl).1
        refine hK _ _ hSn ?_
        clear hK K
        try simp only [List.getElem_toArray, List.getElem_cons_succ, List.getElem_cons_zero, Act.put, List.setIfInBounds_toArray, List.set_cons_zero, List.set_cons_succ]
        refine Hd.take (i := 2) (v := ?tv289) hok rfl (by kernel_rfl) (fun _ _ _ h => h) (Or.inl ⟨by rfl, ?ty289⟩) (by assumption) ?tr289
        case ty289 => (intro w hSw; (try dsimp only at hSw); go_simp; (try with_reducible rfl))
        try simp only [List.getElem_toArray, List.getElem_cons_succ, List.getElem_cons_zero, Act.put, List.setIfInBounds_toArray, List.set_cons_zero, List.set_cons_succ]
        refine Hd.one (i := 3) rfl (by kernel_rfl) (fun K hK => ?_)
        go_simp
        refine (apply_lit _ hv_w44_.now stC okC rfl rfl hmD.out).mono ?_
        rintro e w45_ ⟨vD, oD, rfl, hvD, hoD, hb_w45_⟩
        dsimp only
        obtain ⟨ab4, cb4, nb4, ah4, ch4, as4, cs4, rfl⟩ := hvD.out.now.out_
        obtain ⟨aU4, cU4, aM4, cM4, rfl⟩ := hoD.out.now.out_
        clear hvD hoD
        have hz_w45_ := hz_w44_.below hb_w45_.out
        have hv_w45_ := hv_w44_.below hb_w45_.out
        have hbb_w45_ := hbb_w44_.trans (hb_w45_.out.mono hbb_w44_.size)
        have hSn := Lib.hid (hz_w45_.box 5 rfl).1
        refine hK _ _ hSn ?_
        clear hK K
        try simp only [List.getElem_toArray, List.getElem_cons_succ, List.getElem_cons_zero, Act.put, List.setIfInBounds_toArray, List.set_cons_zero, List.set_cons_succ]
        refine Hd.take (i := 4) (v := ?tv290) hok rfl (by kernel_rfl) (fun _ _ _ h => h) (Or.inl ⟨by rfl, ?ty290⟩) (by assumption) ?tr290
        case ty290 => (intro w hSw; (try dsimp only at hSw); go_simp; (try with_reducible rfl))
        try simp only [List.getElem_toArray, List.getElem_cons_succ, List.getElem_cons_zero, Act.put, List.setIfInBounds_toArray, List.set_cons_zero, List.set_cons_succ]
        refine Hd.take (i := 5) (v := ?tv291) hok rfl (by kernel_rfl) (fun _ _ _ h => h) (Or.inl ⟨by rfl, ?ty291⟩) (by assumption) ?tr291
        case ty291 => (intro w hSw; (try dsimp only at hSw); go_simp; (try with_reducible rfl))
        try simp only [List.getElem_toArray, List.getElem_cons_succ, List.getElem_cons_zero, Act.put, List.setIfInBounds_toArray, List.set_cons_zero, List.set_cons_succ]
        refine Hd.take (i := 6) (v := ?tv292) hok rfl (by kernel_rfl) (fun _ _ _ h => h) (Or.inl ⟨by rfl, ?ty292⟩) (by assumption) ?tr292
        case ty292 => (intro w hSw; (try dsimp only at hSw); go_simp; (try with_reducible rfl))
        try simp only [List.getElem_toArray, List.getElem_cons_succ, List.getElem_cons_zero, Act.put, List.setIfInBounds_toArray, List.set_cons_zero, List.set_cons_succ]
        refine Hd.one (i := 9) rfl (by kernel_rfl) (fun K hK => ?_)
        have hs1 := hz_w45_.boxSome (C := [.slice none 0 0, .int .u64 0, .slice none 0 0, .slice none 0 0, .int .u64 0, .int .u64 0]) 0 rfl
        refine wp_store_op rfl 27 (.tmp 5) (.tmp 33) rfl (w37_.heap.size) 0 [.slice ab4 nb4 cb4, .int .u64 (mD.nv : Int), .slice ah4 mD.homes.length ch4, .slice as4 mD.seats.length cs4, .int .u64 (mD.ns : Int), .int .u64 (mD.sweeps : Int)] rfl rfl Tryz.sizeOf27 (al_one6 _ _ _ _ _ _ _ _ _ _ _ _) hs1.1 hs1.2 ?_
        have hz9 := hz_w45_.fillBox (C := [.slice none 0 0, .int .u64 0, .slice none 0 0, .slice none 0 0, .int .u64 0, .int .u64 0]) 0 rfl [.slice ab4 nb4 cb4, .int .u64 (mD.nv : Int), .slice ah4 mD.homes.length ch4, .slice as4 mD.seats.length cs4, .int .u64 (mD.ns : Int), .int .u64 (mD.sweeps : Int)] rfl
        have hSn := Lib.hid (hz9.box (B := TB) (C := [.slice ab3 nb3 cb3, .int .u64 (mlC.nv : Int), .slice ah3 mlC.homes.length ch3, .slice as3 mlC.seats.length cs3, .int .u64 (mlC.ns : Int), .int .u64 (mlC.sweeps : Int)].toArray) (t := 27) 5 rfl).1
        refine hK _ _ hSn ?_
        clear hK K
        try simp only [List.getElem_toArray, List.getElem_cons_succ, List.getElem_cons_zero, Act.put, List.setIfInBounds_toArray, List.set_cons_zero, List.set_cons_succ]
        refine Hd.done (by kernel_rfl) ?_
        simp only [List.drop_succ_cons, List.drop_zero]
        have hs2 := hz9.boxSome (C := [.int .i64 0, .int .u64 0, .int .u64 0, .slice none 0 0, .slice none 0 0]) 1 rfl
        refine wpList_store_cells rfl 35 (.tmp 6) (.tmp 34) rfl (Wd.heap.size) 0 [.int .i64 14, .int .u64 0, .int .u64 0, .slice aU4 0 cU4, .slice aM4 0 cM4] rfl rfl Tryz.sizeOf35 (al_one5 _ _ _ _ _ _ _) hs2.1 hs2.2 ?_
        have hzA := hz9.fillBox (C := [.int .i64 0, .int .u64 0, .int .u64 0, .slice none 0 0, .slice none 0 0]) 1 rfl [.int .i64 14, .int .u64 0, .int .u64 0, .slice aU4 0 cU4, .slice aM4 0 cM4] rfl
        have hrel : Hid (Al4 w2 w6 (boxT QB [.int .i64 0, .int .u64 0, .int .u64 2, .slice aU3 1 cU3, .slice aM3 0 cM3].toArray 35) (boxT PB [.int .i64 0, .int .u64 0, .int .u64 2, .slice aU2 0 cU2, .slice aM2 0 cM2].toArray 35) (boxT (TB + 1) [.int .i64 0, .int .u64 1, .int .u64 0, .slice aU 0 cU, .slice aM 0 cM].toArray 35) (boxT TB [.slice ab3 nb3 cb3, .int .u64 (mlC.nv : Int), .slice ah3 mlC.homes.length ch3, .slice as3 mlC.seats.length cs3, .int .u64 (mlC.ns : Int), .int .u64 (mlC.sweeps : Int)].toArray 27) _ _) := Lib.hid ⟨aU4, cU4, aM4, cM4, hzA.swap.sub (List.Sublist.cons_cons _ (List.Sublist.cons _ (List.Sublist.refl _))), bel_sets (bel_sets hbb_w45_ _ [.slice ab4 nb4 cb4, .int .u64 (mD.nv : Int), .slice ah4 mD.homes.length ch4, .slice as4 mD.seats.length cs4, .int .u64 (mD.ns : Int), .int .u64 (mD.sweeps : Int)] hbb_w37_.size) _ [.int .i64 14, .int .u64 0, .int .u64 0, .slice aU4 0 cU4, .slice aM4 0 cM4] hbd.size⟩
        clear hs1 hs2
        go_wp2_with fail
        go_meet
        case rel => exact ⟨Wd.heap.size, rfl, hrel⟩
  case rest =>
  obtain ⟨AB, rfl, hA⟩ := hcut
  obtain ⟨aU4, cU4, aM4, cM4, hz7, hb7⟩ := hA.out
  clear hA
  generalize wc = w7 at *
  have hv7 := hv6.out.below hb7
  have hu7 : Hid (∀ w', Below w7.heap.size w7 w' → Rd w' (.slice aU3 1 cU3) 1 ([1].map encU)) := Lib.hid (fun w' h => by
    obtain ⟨aU, cU, aM, cM, e, h1, -⟩ := ((ho6.out.below hb7).below h).now
    injection e with e
    have e1 := congrArg (fun a : Array Value => a[3]?) e
    simp at e1
    obtain ⟨rfl, rfl⟩ := e1
    rw [← cells_u64]
    exact h1)
  obtain ⟨hbT, -⟩ := hz7.box 4 rfl
  have x0 : w7.cell? ⟨TB, 0, none⟩ = some (.slice ab3 nb3 cb3) := box_cell hbT 0
  have x1 : w7.cell? ⟨TB, 1, none⟩ = some (.int .u64 (mlC.nv : Int)) := box_cell hbT 1
  have x2 : w7.cell? ⟨TB, 2, none⟩ = some (.slice ah3 mlC.homes.length ch3) := box_cell hbT 2
  have x3 : w7.cell? ⟨TB, 3, none⟩ = some (.slice as3 mlC.seats.length cs3) := box_cell hbT 3
  have x4 : w7.cell? ⟨TB, 4, none⟩ = some (.int .u64 (mlC.ns : Int)) := box_cell hbT 4
  have x5 : w7.cell? ⟨TB, 5, none⟩ = some (.int .u64 (mlC.sweeps : Int)) := box_cell hbT 5
  replace hz7 := Lib.hid hz7
  replace hb7 := Lib.hid hb7
  have hfd := Lib.hid (fdA hv7.now)
  clear hbT hv6 ho6 hz6 hl6 hv7 hmD
  go_wp2_with fail
  refine hfd.out.mono ?_
  rintro e w8 ⟨lb, lo, lc, rfl, hlet, hb8⟩
  dsimp only
  clear x0 x1 x2 x3 x4 x5
  have hz8 := Lib.hid ((hz7.out.below hb8.out).newBox [.string ⟨#[97]⟩, .int .u64 2, .int .u64 2, .int .u64 2, .slice (some ⟨lb, lo, none⟩) 1 lc].toArray 48)
  have hb9 := hb8.out.trans (((Below.refl w8.heap.size w8).alloc (Nat.le_refl _) (.cells [.string ⟨#[97]⟩, .int .u64 2, .int .u64 2, .int .u64 2, .slice (some ⟨lb, lo, none⟩) 1 lc].toArray 48)).mono hb8.out.size)
  have hlet9 := (((Below.refl w8.heap.size w8).alloc (Nat.le_refl _) (.cells [.string ⟨#[97]⟩, .int .u64 2, .int .u64 2, .int .u64 2, .slice (some ⟨lb, lo, none⟩) 1 lc].toArray 48)).cell (p := ⟨lb, lo + 3, none⟩) hlet.out.1).trans hlet.out.2
  have hll9 : lb < (w8.alloc (.cells [.string ⟨#[97]⟩, .int .u64 2, .int .u64 2, .int .u64 2, .slice (some ⟨lb, lo, none⟩) 1 lc].toArray 48)).heap.size := Nat.lt_of_lt_of_le hlet.out.1 ((Below.refl w8.heap.size w8).alloc (Nat.le_refl _) (.cells [.string ⟨#[97]⟩, .int .u64 2, .int .u64 2, .int .u64 2, .slice (some ⟨lb, lo, none⟩) 1 lc].toArray 48)).size
  replace hb9 := Lib.hid hb9
  replace hlet9 := Lib.hid hlet9
  replace hll9 := Lib.hid hll9
  go_upto_region 6 with fail
  generalize hFB : w8.heap.size = FB at *
  generalize (w8.alloc (.cells [.string ⟨#[97]⟩, .int .u64 2, .int .u64 2, .int .u64 2, .slice (some ⟨lb, lo, none⟩) 1 lc].toArray 48)) = w9 at *
  clear hFB hfd hlet hb8
  obtain ⟨hbA, -⟩ := hz8.out.box (B := AB) (C := [.int .i64 14, .int .u64 0, .int .u64 0, .slice aU4 0 cU4, .slice aM4 0 cM4].toArray) (t := 35) 1 rfl
  obtain ⟨hbQ, -⟩ := hz8.out.box (B := QB) (C := [.int .i64 0, .int .u64 0, .int .u64 2, .slice aU3 1 cU3, .slice aM3 0 cM3].toArray) (t := 35) 2 rfl
  obtain ⟨hbP, -⟩ := hz8.out.box (B := PB) (C := [.int .i64 0, .int .u64 0, .int .u64 2, .slice aU2 0 cU2, .slice aM2 0 cM2].toArray) (t := 35) 3 rfl
  obtain ⟨hbO, -⟩ := hz8.out.box (B := TB + 1) (C := [.int .i64 0, .int .u64 1, .int .u64 0, .slice aU 0 cU, .slice aM 0 cM].toArray) (t := 35) 4 rfl
  obtain ⟨hbF, -⟩ := hz8.out.box (B := FB) (C := [.string ⟨#[97]⟩, .int .u64 2, .int .u64 2, .int .u64 2, .slice (some ⟨lb, lo, none⟩) 1 lc].toArray) (t := 48) 0 rfl
  have hcl : Hid (∀ w', Below w9.heap.size w9 w' → w'.cell? ⟨TB + 1, 1, none⟩ = some (.int .u64 1) ∧ w'.cell? ⟨PB, 2, none⟩ = some (.int .u64 2) ∧ w'.cell? ⟨QB, 3, none⟩ = some (.slice aU3 1 cU3) ∧ w'.cell? ⟨AB, 0, none⟩ = some (.int .i64 14) ∧ w'.cell? ⟨FB, 3, none⟩ = some (.int .u64 2) ∧ w'.cell? ⟨FB, 4, none⟩ = some (.slice (some ⟨lb, lo, none⟩) 1 lc) ∧ w'.cell? ⟨lb, lo + 3, none⟩ = some (.string (mkB (hashL 1)))) := Lib.hid (fun w' h => ⟨box_cell (bel_heap h hbO) 1, box_cell (bel_heap h hbP) 2, box_cell (bel_heap h hbQ) 3, box_cell (bel_heap h hbA) 0, box_cell (bel_heap h hbF) 3, box_cell (bel_heap h hbF) 4, (h.cell (p := ⟨lb, lo + 3, none⟩) hll9.out).trans hlet9.out⟩)
  have hbelW : Hid (Below W.heap.size W w9) := Lib.hid ((hb1.out.trans (hb2.out.mono hb1.out.size)).trans (hz8.out.bel.mono (Nat.le_trans hb1.out.size hb2.out.size)))
  clear hbA hbQ hbP hbO hbF hlet9 hll9 hz8
  have hcd := hcl.out w9.drew ((Below.refl _ _).drew)
  have hdd : Below w9.heap.size w9 w9.drew := (Below.refl _ _).drew
  refine wp_region_hd (fun w' => w'.cell? ⟨TB + 1, 1, none⟩ = some (.int .u64 1) ∧ w'.cell? ⟨PB, 2, none⟩ = some (.int .u64 2) ∧ w'.cell? ⟨QB, 3, none⟩ = some (.slice aU3 1 cU3) ∧ w'.cell? ⟨AB, 0, none⟩ = some (.int .i64 14) ∧ w'.cell? ⟨FB, 3, none⟩ = some (.int .u64 2) ∧ w'.cell? ⟨FB, 4, none⟩ = some (.slice (some ⟨lb, lo, none⟩) 1 lc) ∧ w'.cell? ⟨lb, lo + 3, none⟩ = some (.string (mkB (hashL 1)))) 42 1 (by kernel_rfl) rfl ⟨by kernel_rfl, by kernel_rfl, by kernel_rfl, by decide⟩ hcd (fun hok hS0 => ?_)
  clear hcd
  generalize w9.drew = Wd at *
  refine Hd.take (i := 0) (v := ?tv293) hok rfl (by kernel_rfl) (fun _ _ _ h => h) (Or.inl ⟨by rfl, ?ty293⟩) (by assumption) ?tr293
  case ty293 => (intro w hSw; (try dsimp only at hSw); go_simp; (try with_reducible rfl))
  try simp only [List.getElem_toArray, List.getElem_cons_succ, List.getElem_cons_zero, Act.put, List.setIfInBounds_toArray, List.set_cons_zero, List.set_cons_succ]
  refine Hd.take (i := 1) (v := ?tv294) hok rfl (by kernel_rfl) (fun _ _ _ h => h) (Or.inl ⟨by rfl, ?ty294⟩) (by assumption) ?tr294
  case ty294 => (intro w hSw; (try dsimp only at hSw); go_simp; (try with_reducible rfl))
  try simp only [List.getElem_toArray, List.getElem_cons_succ, List.getElem_cons_zero, Act.put, List.setIfInBounds_toArray, List.set_cons_zero, List.set_cons_succ]
  refine Hd.take (i := 2) (v := ?tv295) hok rfl (by kernel_rfl) (fun _ _ _ h => h) (Or.inl ⟨by rfl, ?ty295⟩) (by assumption) ?tr295
  case ty295 => (intro w hSw; (try dsimp only at hSw); go_simp; (try with_reducible rfl))
  try simp only [List.getElem_toArray, List.getElem_cons_succ, List.getElem_cons_zero, Act.put, List.setIfInBounds_toArray, List.set_cons_zero, List.set_cons_succ]
  refine Hd.take (i := 3) (v := ?tv296) hok rfl (by kernel_rfl) (fun _ _ _ h => h) (Or.inl ⟨by rfl, ?ty296⟩) (by assumption) ?tr296
  case ty296 => (intro w hSw; (try dsimp only at hSw); go_simp; (try with_reducible rfl))
  try simp only [List.getElem_toArray, List.getElem_cons_succ, List.getElem_cons_zero, Act.put, List.setIfInBounds_toArray, List.set_cons_zero, List.set_cons_succ]
  refine Hd.take (i := 4) (v := ?tv297) hok rfl (by kernel_rfl) (fun _ _ _ h => h) (Or.inl ⟨by rfl, ?ty297⟩) (by assumption) ?tr297
  case ty297 => (intro w hSw; (try dsimp only at hSw); go_simp; (try with_reducible rfl))
  try simp only [List.getElem_toArray, List.getElem_cons_succ, List.getElem_cons_zero, Act.put, List.setIfInBounds_toArray, List.set_cons_zero, List.set_cons_succ]
  refine Hd.take (i := 5) (v := ?tv298) hok rfl (by kernel_rfl) (fun _ _ _ h => h) (Or.inl ⟨by rfl, ?ty298⟩) (by assumption) ?tr298
  case ty298 => (intro w hSw; (try dsimp only at hSw); go_simp; (try with_reducible rfl))
  try simp only [List.getElem_toArray, List.getElem_cons_succ, List.getElem_cons_zero, Act.put, List.setIfInBounds_toArray, List.set_cons_zero, List.set_cons_succ]
  refine Hd.take (i := 6) (v := ?tv299) hok rfl (by kernel_rfl) (fun _ _ _ h => h) (Or.inl ⟨by rfl, ?ty299⟩) (by assumption) ?tr299
  case ty299 => (intro w hSw; (try dsimp only at hSw); go_simp; (try with_reducible rfl))
  try simp only [List.getElem_toArray, List.getElem_cons_succ, List.getElem_cons_zero, Act.put, List.setIfInBounds_toArray, List.set_cons_zero, List.set_cons_succ]
  refine Hd.take (i := 7) (v := ?tv300) hok rfl (by kernel_rfl) (fun _ _ _ h => h) (Or.inl ⟨by rfl, ?ty300⟩) (by assumption) ?tr300
  case ty300 => (intro w hSw; (try dsimp only at hSw); go_simp; (try with_reducible rfl))
  try simp only [List.getElem_toArray, List.getElem_cons_succ, List.getElem_cons_zero, Act.put, List.setIfInBounds_toArray, List.set_cons_zero, List.set_cons_succ]
  refine Hd.take (i := 8) (v := ?tv301) hok rfl (by kernel_rfl) (fun _ _ _ h => h) (Or.inl ⟨by rfl, ?ty301⟩) (by assumption) ?tr301
  case ty301 => (intro w hSw; (try dsimp only at hSw); go_simp; (try with_reducible rfl))
  try simp only [List.getElem_toArray, List.getElem_cons_succ, List.getElem_cons_zero, Act.put, List.setIfInBounds_toArray, List.set_cons_zero, List.set_cons_succ]
  refine Hd.take (i := 9) (v := ?tv302) hok rfl (by kernel_rfl) (fun _ _ _ h => h) (Or.inl ⟨by rfl, ?ty302⟩) (by assumption) ?tr302
  case ty302 => (intro w hSw; (try dsimp only at hSw); go_simp; (try with_reducible rfl))
  try simp only [List.getElem_toArray, List.getElem_cons_succ, List.getElem_cons_zero, Act.put, List.setIfInBounds_toArray, List.set_cons_zero, List.set_cons_succ]
  refine Hd.take (i := 10) (v := ?tv303) hok rfl (by kernel_rfl) (fun _ _ _ h => h) (Or.inl ⟨by rfl, ?ty303⟩) (by assumption) ?tr303
  case ty303 => (intro w hSw; (try dsimp only at hSw); go_simp; (try with_reducible rfl))
  try simp only [List.getElem_toArray, List.getElem_cons_succ, List.getElem_cons_zero, Act.put, List.setIfInBounds_toArray, List.set_cons_zero, List.set_cons_succ]
  refine Hd.one (i := 11) rfl (by kernel_rfl) (fun K hK => ?_)
  go_simp
  have ha := (Below.refl Wd.heap.size Wd).alloc (Nat.le_refl _) (.cells #[.int .u64 1] 23)
  have hNB := heap_alloc_new Wd (.cells #[Value.int .u64 1] 23)
  have hNl : Wd.heap.size < (Wd.alloc (.cells #[.int .u64 1] 23)).heap.size := by simp
  have hda := hdd.trans (ha.mono hdd.size)
  generalize (Wd.alloc (.cells #[.int .u64 1] 23)) = Wa at ha hNB hNl hda ⊢
  generalize Wd.heap.size = NB at hNB hNl ⊢
  have hS1 := hcl.out Wa hda
  refine hK _ _ hS1 ?_
  clear hK K hS0
  try simp only [List.getElem_toArray, List.getElem_cons_succ, List.getElem_cons_zero, Act.put, List.setIfInBounds_toArray, List.set_cons_zero, List.set_cons_succ]
  have hsn := sameNums_any (.slice aU3 1 cU3) (.slice (some ⟨NB, 0, none⟩) 1 1) [1] [1] Wa (hu7.out Wa (hb9.out.trans (hda.mono hb9.out.size))) ⟨_, 1, rfl, .inr ⟨NB, 0, rfl, hNl, Nat.le_refl _, fun i u hu => by rw [Nat.zero_add, box_cell hNB i, List.getElem?_toArray]; exact hu⟩⟩ (by decide)
  rw [show decide (([1] : List Nat) = [1]) = true from rfl] at hsn
  replace hsn := Lib.hid hsn
  refine Hd.one (i := 12) rfl (by kernel_rfl) (fun K hK => ?_)
  go_simp
  refine hsn.out.mono ?_
  rintro e w10 ⟨rfl, hb10⟩
  dsimp only
  have hd10 := hda.trans (hb10.mono hda.size)
  have hS2 := hcl.out w10 hd10
  refine hK _ _ hS2 ?_
  clear hK K hS1 hsn hNB hNl ha
  try simp only [List.getElem_toArray, List.getElem_cons_succ, List.getElem_cons_zero, Act.put, List.setIfInBounds_toArray, List.set_cons_zero, List.set_cons_succ]
  refine Hd.take (i := 13) (v := ?tv304) hok rfl (by kernel_rfl) (fun _ _ _ h => h) (Or.inl ⟨by rfl, ?ty304⟩) (by assumption) ?tr304
  case ty304 => (intro w hSw; (try dsimp only at hSw); go_simp; (try with_reducible rfl))
  try simp only [List.getElem_toArray, List.getElem_cons_succ, List.getElem_cons_zero, Act.put, List.setIfInBounds_toArray, List.set_cons_zero, List.set_cons_succ]
  refine Hd.take (i := 14) (v := ?tv305) hok rfl (by kernel_rfl) (fun _ _ _ h => h) (Or.inl ⟨by rfl, ?ty305⟩) (by assumption) ?tr305
  case ty305 => (intro w hSw; (try dsimp only at hSw); go_simp; (try with_reducible rfl))
  try simp only [List.getElem_toArray, List.getElem_cons_succ, List.getElem_cons_zero, Act.put, List.setIfInBounds_toArray, List.set_cons_zero, List.set_cons_succ]
  refine Hd.take (i := 15) (v := ?tv306) hok rfl (by kernel_rfl) (fun _ _ _ h => h) (Or.inl ⟨by rfl, ?ty306⟩) (by assumption) ?tr306
  case ty306 => (intro w hSw; (try dsimp only at hSw); go_simp; (try with_reducible rfl))
  try simp only [List.getElem_toArray, List.getElem_cons_succ, List.getElem_cons_zero, Act.put, List.setIfInBounds_toArray, List.set_cons_zero, List.set_cons_succ]
  refine Hd.take (i := 16) (v := ?tv307) hok rfl (by kernel_rfl) (fun _ _ _ h => h) (Or.inl ⟨by rfl, ?ty307⟩) (by assumption) ?tr307
  case ty307 => (intro w hSw; (try dsimp only at hSw); go_simp; (try with_reducible rfl))
  try simp only [List.getElem_toArray, List.getElem_cons_succ, List.getElem_cons_zero, Act.put, List.setIfInBounds_toArray, List.set_cons_zero, List.set_cons_succ]
  refine Hd.take (i := 17) (v := ?tv308) hok rfl (by kernel_rfl) (fun _ _ _ h => h) (Or.inl ⟨by rfl, ?ty308⟩) (by assumption) ?tr308
  case ty308 => (intro w hSw; (try dsimp only at hSw); go_simp; (try with_reducible rfl))
  try simp only [List.getElem_toArray, List.getElem_cons_succ, List.getElem_cons_zero, Act.put, List.setIfInBounds_toArray, List.set_cons_zero, List.set_cons_succ]
  refine Hd.take (i := 18) (v := ?tv309) hok rfl (by kernel_rfl) (fun _ _ _ h => h) (Or.inl ⟨by rfl, ?ty309⟩) (by assumption) ?tr309
  case ty309 => (intro w hSw; (try dsimp only at hSw); go_simp; (try with_reducible rfl))
  try simp only [List.getElem_toArray, List.getElem_cons_succ, List.getElem_cons_zero, Act.put, List.setIfInBounds_toArray, List.set_cons_zero, List.set_cons_succ]
  refine Hd.take (i := 19) (v := ?tv310) hok rfl (by kernel_rfl) (fun _ _ _ h => h) (Or.inl ⟨by rfl, ?ty310⟩) (by assumption) ?tr310
  case ty310 => (intro w hSw; (try dsimp only at hSw); go_simp; (try with_reducible rfl))
  try simp only [List.getElem_toArray, List.getElem_cons_succ, List.getElem_cons_zero, Act.put, List.setIfInBounds_toArray, List.set_cons_zero, List.set_cons_succ]
  refine Hd.take (i := 20) (v := ?tv311) hok rfl (by kernel_rfl) (fun _ _ _ h => h) (Or.inl ⟨by rfl, ?ty311⟩) (by assumption) ?tr311
  case ty311 => (intro w hSw; (try dsimp only at hSw); go_simp; (try with_reducible rfl))
  try simp only [List.getElem_toArray, List.getElem_cons_succ, List.getElem_cons_zero, Act.put, List.setIfInBounds_toArray, List.set_cons_zero, List.set_cons_succ]
  refine Hd.take (i := 21) (v := ?tv312) hok rfl (by kernel_rfl) (fun _ _ _ h => h) (Or.inl ⟨by rfl, ?ty312⟩) (by assumption) ?tr312
  case ty312 => (intro w hSw; (try dsimp only at hSw); go_simp; (try with_reducible rfl))
  try simp only [List.getElem_toArray, List.getElem_cons_succ, List.getElem_cons_zero, Act.put, List.setIfInBounds_toArray, List.set_cons_zero, List.set_cons_succ]
  refine Hd.take (i := 22) (v := ?tv313) hok rfl (by kernel_rfl) (fun _ _ _ h => h) (Or.inl ⟨by rfl, ?ty313⟩) (by assumption) ?tr313
  case ty313 => (intro w hSw; (try dsimp only at hSw); go_simp; (try with_reducible rfl))
  try simp only [List.getElem_toArray, List.getElem_cons_succ, List.getElem_cons_zero, Act.put, List.setIfInBounds_toArray, List.set_cons_zero, List.set_cons_succ]
  refine Hd.take (i := 23) (v := ?tv314) hok rfl (by kernel_rfl) (fun _ _ _ h => h) (Or.inl ⟨by rfl, ?ty314⟩) (by assumption) ?tr314
  case ty314 => (intro w hSw; (try dsimp only at hSw); go_simp; (try with_reducible rfl))
  try simp only [List.getElem_toArray, List.getElem_cons_succ, List.getElem_cons_zero, Act.put, List.setIfInBounds_toArray, List.set_cons_zero, List.set_cons_succ]
  refine Hd.take (i := 24) (v := ?tv315) hok rfl (by kernel_rfl) (fun _ _ _ h => h) (Or.inl ⟨by rfl, ?ty315⟩) (by assumption) ?tr315
  case ty315 => (intro w hSw; (try dsimp only at hSw); go_simp; (try with_reducible rfl))
  try simp only [List.getElem_toArray, List.getElem_cons_succ, List.getElem_cons_zero, Act.put, List.setIfInBounds_toArray, List.set_cons_zero, List.set_cons_succ]
  refine Hd.take (i := 25) (v := ?tv316) hok rfl (by kernel_rfl) (fun _ _ _ h => h) (Or.inl ⟨by rfl, ?ty316⟩) (by assumption) ?tr316
  case ty316 => (intro w hSw; (try dsimp only at hSw); go_simp; (try with_reducible rfl))
  try simp only [List.getElem_toArray, List.getElem_cons_succ, List.getElem_cons_zero, Act.put, List.setIfInBounds_toArray, List.set_cons_zero, List.set_cons_succ]
  refine Hd.take (i := 26) (v := ?tv317) hok rfl (by kernel_rfl) (fun _ _ _ h => h) (Or.inl ⟨by rfl, ?ty317⟩) (by assumption) ?tr317
  case ty317 => (intro w hSw; (try dsimp only at hSw); go_simp; (try with_reducible rfl))
  try simp only [List.getElem_toArray, List.getElem_cons_succ, List.getElem_cons_zero, Act.put, List.setIfInBounds_toArray, List.set_cons_zero, List.set_cons_succ]
  refine Hd.take (i := 27) (v := ?tv318) hok rfl (by kernel_rfl) (fun _ _ _ h => h) (Or.inl ⟨by rfl, ?ty318⟩) (by assumption) ?tr318
  case ty318 => (intro w hSw; (try dsimp only at hSw); go_simp; (try with_reducible rfl))
  try simp only [List.getElem_toArray, List.getElem_cons_succ, List.getElem_cons_zero, Act.put, List.setIfInBounds_toArray, List.set_cons_zero, List.set_cons_succ]
  refine Hd.take (i := 28) (v := ?tv319) hok rfl (by kernel_rfl) (fun _ _ _ h => h) (Or.inl ⟨by rfl, ?ty319⟩) (by assumption) ?tr319
  case ty319 => (intro w hSw; (try dsimp only at hSw); go_simp; (try with_reducible rfl))
  try simp only [List.getElem_toArray, List.getElem_cons_succ, List.getElem_cons_zero, Act.put, List.setIfInBounds_toArray, List.set_cons_zero, List.set_cons_succ]
  refine Hd.take (i := 29) (v := ?tv320) hok rfl (by kernel_rfl) (fun _ _ _ h => h) (Or.inl ⟨by rfl, ?ty320⟩) (by assumption) ?tr320
  case ty320 => (intro w hSw; (try dsimp only at hSw); go_simp; (try with_reducible rfl))
  try simp only [List.getElem_toArray, List.getElem_cons_succ, List.getElem_cons_zero, Act.put, List.setIfInBounds_toArray, List.set_cons_zero, List.set_cons_succ]
  refine Hd.take (i := 30) (v := ?tv321) hok rfl (by kernel_rfl) (fun _ _ _ h => h) (Or.inl ⟨by rfl, ?ty321⟩) (by assumption) ?tr321
  case ty321 => (intro w hSw; (try dsimp only at hSw); go_simp; (try with_reducible rfl))
  try simp only [List.getElem_toArray, List.getElem_cons_succ, List.getElem_cons_zero, Act.put, List.setIfInBounds_toArray, List.set_cons_zero, List.set_cons_succ]
  refine Hd.take (i := 31) (v := ?tv322) hok rfl (by kernel_rfl) (fun _ _ _ h => h) (Or.inl ⟨by rfl, ?ty322⟩) (by assumption) ?tr322
  case ty322 => (intro w hSw; (try dsimp only at hSw); go_simp; (try with_reducible rfl))
  try simp only [List.getElem_toArray, List.getElem_cons_succ, List.getElem_cons_zero, Act.put, List.setIfInBounds_toArray, List.set_cons_zero, List.set_cons_succ]
  refine Hd.take (i := 32) (v := ?tv323) hok rfl (by kernel_rfl) (fun _ _ _ h => h) (Or.inl ⟨by rfl, ?ty323⟩) (by assumption) ?tr323
  case ty323 => (intro w hSw; (try dsimp only at hSw); go_simp; (try with_reducible rfl))
  try simp only [List.getElem_toArray, List.getElem_cons_succ, List.getElem_cons_zero, Act.put, List.setIfInBounds_toArray, List.set_cons_zero, List.set_cons_succ]
  refine Hd.take (i := 33) (v := ?tv324) hok rfl (by kernel_rfl) (fun _ _ _ h => h) (Or.inl ⟨by rfl, ?ty324⟩) (by assumption) ?tr324
  case ty324 => (intro w hSw; (try dsimp only at hSw); go_simp; (try with_reducible rfl))
  try simp only [List.getElem_toArray, List.getElem_cons_succ, List.getElem_cons_zero, Act.put, List.setIfInBounds_toArray, List.set_cons_zero, List.set_cons_succ]
  refine Hd.take (i := 34) (v := ?tv325) hok rfl (by kernel_rfl) (fun _ _ _ h => h) (Or.inl ⟨by rfl, ?ty325⟩) (by assumption) ?tr325
  case ty325 => (intro w hSw; (try dsimp only at hSw); go_simp; (try with_reducible rfl))
  try simp only [List.getElem_toArray, List.getElem_cons_succ, List.getElem_cons_zero, Act.put, List.setIfInBounds_toArray, List.set_cons_zero, List.set_cons_succ]
  refine Hd.take (i := 35) (v := ?tv326) hok rfl (by kernel_rfl) (fun _ _ _ h => h) (Or.inl ⟨by rfl, ?ty326⟩) (by assumption) ?tr326
  case ty326 => (intro w hSw; (try dsimp only at hSw); go_simp; (try with_reducible rfl))
  try simp only [List.getElem_toArray, List.getElem_cons_succ, List.getElem_cons_zero, Act.put, List.setIfInBounds_toArray, List.set_cons_zero, List.set_cons_succ]
  refine Hd.take (i := 36) (v := ?tv327) hok rfl (by kernel_rfl) (fun _ _ _ h => h) (Or.inl ⟨by rfl, ?ty327⟩) (by assumption) ?tr327
  case ty327 => (intro w hSw; (try dsimp only at hSw); go_simp; (try with_reducible rfl))
  try simp only [List.getElem_toArray, List.getElem_cons_succ, List.getElem_cons_zero, Act.put, List.setIfInBounds_toArray, List.set_cons_zero, List.set_cons_succ]
  refine Hd.take (i := 37) (v := ?tv328) hok rfl (by kernel_rfl) (fun _ _ _ h => h) (Or.inl ⟨by rfl, ?ty328⟩) (by assumption) ?tr328
  case ty328 => (intro w hSw; (try dsimp only at hSw); go_simp; (try with_reducible rfl))
  try simp only [List.getElem_toArray, List.getElem_cons_succ, List.getElem_cons_zero, Act.put, List.setIfInBounds_toArray, List.set_cons_zero, List.set_cons_succ]
  refine Hd.take (i := 38) (v := ?tv329) hok rfl (by kernel_rfl) (fun _ _ _ h => h) (Or.inl ⟨by rfl, ?ty329⟩) (by assumption) ?tr329
  case ty329 => (intro w hSw; (try dsimp only at hSw); go_simp; (try with_reducible rfl))
  try simp only [List.getElem_toArray, List.getElem_cons_succ, List.getElem_cons_zero, Act.put, List.setIfInBounds_toArray, List.set_cons_zero, List.set_cons_succ]
  refine Hd.one (i := 39) rfl (by kernel_rfl) (fun K hK => ?_)
  go_simp
  refine (hash_any _).mono ?_
  rintro e w11 ⟨rfl, hb11⟩
  dsimp only
  have hd11 := hd10.trans (hb11.out.mono hd10.size)
  have hS3 := hcl.out w11 hd11
  refine hK _ _ hS3 ?_
  clear hK K hS2
  try simp only [List.getElem_toArray, List.getElem_cons_succ, List.getElem_cons_zero, Act.put, List.setIfInBounds_toArray, List.set_cons_zero, List.set_cons_succ]
  refine Hd.take (i := 40) (v := ?tv330) hok rfl (by kernel_rfl) (fun _ _ _ h => h) (Or.inl ⟨by rfl, ?ty330⟩) (by assumption) ?tr330
  case ty330 => (intro w hSw; (try dsimp only at hSw); go_simp; (try with_reducible rfl))
  try simp only [List.getElem_toArray, List.getElem_cons_succ, List.getElem_cons_zero, Act.put, List.setIfInBounds_toArray, List.set_cons_zero, List.set_cons_succ]
  refine Hd.take (i := 41) (v := ?tv331) hok rfl (by kernel_rfl) (fun _ _ _ h => h) (Or.inl ⟨by rfl, ?ty331⟩) (by assumption) ?tr331
  case ty331 => (intro w hSw; (try dsimp only at hSw); go_simp; (try with_reducible rfl))
  try simp only [List.getElem_toArray, List.getElem_cons_succ, List.getElem_cons_zero, Act.put, List.setIfInBounds_toArray, List.set_cons_zero, List.set_cons_succ]
  refine Hd.done (by kernel_rfl) ?_
  simp only [List.drop_succ_cons, List.drop_zero]
  have hbF := Lib.hid (hbelW.out.trans (hd11.mono hbelW.out.size))
  clear hok hS3 hdd hda hd10 hd11 hcl hbelW hb10 hb11
  go_wp2_with fail
  go_ret
  exact ⟨rfl, hbF⟩
end Go.Proofs.YtdobbfjmlnlieaaGreat
