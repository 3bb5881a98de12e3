/- later of layer 22: walked. Rows of the call's own of which a first part is taken, with no room behind it: what they hold, how they are cut, written and appended to. A view's rows and replies as rows of structs. Where a letter stands: walked. -/
import Derived.Test.YtcnebfmlelcliaaGreatB21
import Derived.Test.YtcnebfmlelcliaaGreatB16
import Derived.Test.YtcnebfmlelcliaaGreatB02
import Derived.ArgAppend
import Derived.Test.YtcnebfmlelcliaaGreatB20
namespace Go.Proofs.YtcnebfmlelcliaaGreat
set_option linter.unusedSimpArgs false
open Go.RowKit
attribute [local go_sem ↓] Go.wp_at_zero Go.wp_at_succ

theorem results_cells2t {fn : Func} {p u r : Tmp} {ty ty2 t t2 : TypeId} (h : fn.results = #[.cell p ty, .cell u ty2, .tmp r]) (tmps : Array Value) (w : World) (B B2 : Nat) (C C2 : List Value) (hp : tmps.getD p undef = .pointer (some ⟨B, 0, none⟩)) (hu : tmps.getD u undef = .pointer (some ⟨B2, 0, none⟩)) (hb : w.heap[B]? = some (.cells C.toArray t (0, 0))) (hb2 : w.heap[B2]? = some (.cells C2.toArray t2 (0, 0)))
    (hagg : ∀ w, (isAgg ty).run Tryz.prog w = .ok true w) (hsz : ∀ w, (Go.sizeOf ty).run Tryz.prog w = .ok C.length w) (hagg2 : ∀ w, (isAgg ty2).run Tryz.prog w = .ok true w) (hsz2 : ∀ w, (Go.sizeOf ty2).run Tryz.prog w = .ok C2.length w) : (results fn tmps).run Tryz.prog w = .ok (.tuple #[.agg C.toArray, .agg C2.toArray, tmps.getD r undef]) w := by
  have h1 := run_loadCells_list (P := Tryz.prog) w ⟨B, 0, none⟩ C (fun j v hj => by rw [Addr.add_lit, Nat.zero_add, box_cell hb j]; simpa using hj)
  have h2 := run_loadCells_list (P := Tryz.prog) w ⟨B2, 0, none⟩ C2 (fun j v hj => by rw [Addr.add_lit, Nat.zero_add, box_cell hb2 j]; simpa using hj)
  rw [Array.getD_eq_getD_getElem?] at hp hu
  simp only [results, h]
  simp [Sem.run_bind, Result.andThen, hp, hu, asAddr, loadVar, hagg, hsz, h1, hagg2, hsz2, h2]
/-- the cells of a state -/
def sC (ab : Option Addr) (nb cb : Nat) (m : Ml) (ah : Option Addr) (ch : Nat) (as_ : Option Addr) (cs : Nat) : List Value := [.slice ab nb cb, .int .u64 m.nv, .slice ah m.homes.length ch, .slice as_ m.seats.length cs, .int .u64 m.ns, .int .u64 m.sweeps]
/-- a state behind operations, and its INBOX -/
def LaterV (L : List Nat) (W : World) (m : Ml) (e : Ending) (w' : World) : Prop := ∃ (sv : Value) (z : BxV), e = .returned (.tuple #[sv, bxAgg z, .bool true]) ∧ Hid (findM m inboxS = some z.b) ∧ Hid (Stay (okL L) w' fun x => MlIn x sv m) ∧ Hid (Stay (okL L) w' fun x => LtsIn x z.v z.rows) ∧ Hid (Below W.heap.size W w')
set_option maxRecDepth 100000 in
set_option maxHeartbeats 32000000 in
theorem laterV_any {L : List Nat} {W : World} {m : Ml} {l : List RqP} (v lv : Value) (zn : ByteArray) (zv zx zh : Nat) (za : Option Addr) (zl zc : Nat) (hL : ∀ b ∈ L, b < W.heap.size) (hst : Stay (okL L) W fun x => MlIn x v m) (hr : RightP m) (hl : RqsIn W lv l) (hq : ∀ q ∈ l, RqOk q.1) (hlen : l.length ≤ 1000) (hzn : zn = inboxS) (hzv : ∃ b, findM m inboxS = some b ∧ b.validity = zv) :
    Calls Tryz.prog 10 #[v, lv, .agg #[.string zn, .int .u64 zv, .int .u64 zx, .int .u64 zh, .slice za zl zc]] W (LaterV L W (laterM m (l.map (·.1)))) := by
  obtain ⟨ab, cb, nb, ah, ch, as_, cs, rfl⟩ := hst.now.out_
  have hl0 := Lib.hid (fun (w' : World) (h : Below W.heap.size W w') => hl.below h)
  have hlr : ∀ j (hj : j < l.length), ∃ b bo cap, lv = .slice (some ⟨b, bo, none⟩) l.length cap ∧ b < W.heap.size ∧ ∀ W', Below W.heap.size W W' → ∀ r u, (rqCells l[j].1 l[j].2)[r]? = some u → W'.cell? ⟨b, bo + j * 17 + r, none⟩ = some u := fun j hj => by
    obtain ⟨b, bo, cap, hv, -, hbl, hc⟩ := rqT.rd_cells hl.1 hj
    refine ⟨b, bo, cap, hv, hbl, fun W' hb r u hu => ?_⟩
    rw [Nat.add_assoc]
    exact (hb.cell (p := ⟨b, bo + (j * 17 + r), none⟩) hbl).trans (hc r u hu)
  replace hlr := Lib.hid hlr
  obtain ⟨al, cl, hlv, -⟩ := hl.1
  subst hlv hzn
  have hz1 := (Zoo.nil W).newBox (sC ab nb cb m ah ch as_ cs).toArray 27
  have st1 := hst.allocL (.cells (sC ab nb cb m ah ch as_ cs).toArray 27)
  have lt1 := ltL_alloc hL (.cells (sC ab nb cb m ah ch as_ cs).toArray 27)
  generalize hMB : W.heap.size = MB at hz1 st1 lt1
  generalize hWa : (W.alloc (.cells (sC ab nb cb m ah ch as_ cs).toArray 27)) = Wa at hz1 st1 lt1
  have hz2 := hz1.newBox [.string inboxS, .int .u64 zv, .int .u64 zx, .int .u64 zh, .slice za zl zc].toArray 33
  have st2 := st1.allocL (.cells [.string inboxS, .int .u64 zv, .int .u64 zx, .int .u64 zh, .slice za zl zc].toArray 33)
  have lt2 := ltL_alloc lt1 (.cells [.string inboxS, .int .u64 zv, .int .u64 zx, .int .u64 zh, .slice za zl zc].toArray 33)
  generalize hBB : Wa.heap.size = BB at hz2 st2 lt2
  generalize hWb : (Wa.alloc (.cells [.string inboxS, .int .u64 zv, .int .u64 zx, .int .u64 zh, .slice za zl zc].toArray 33)) = Wb at hz2 st2 lt2
  have hz3 := hz2.newBox zMl.toArray 27
  have st3 := st2.allocL (.cells zMl.toArray 27)
  have lt3 := ltL_alloc lt2 (.cells zMl.toArray 27)
  generalize hRB : Wb.heap.size = RB at hz3 st3 lt3
  generalize hWc : (Wb.alloc (.cells zMl.toArray 27)) = Wc at hz3 st3 lt3
  have hz4 := hz3.newBox zBx.toArray 33
  have st4 := st3.allocL (.cells zBx.toArray 33)
  have lt4 := ltL_alloc lt3 (.cells zBx.toArray 33)
  generalize hSB : Wc.heap.size = SB at hz4 st4 lt4
  generalize hWd : (Wc.alloc (.cells zBx.toArray 33)) = Wd at hz4 st4 lt4
  unfold sC at hWa
  unfold zMl at hWc
  unfold zBx at hWd
  replace hz4 := Lib.hid hz4
  replace st4 := Lib.hid st4
  replace lt4 := Lib.hid lt4
  replace hr := Lib.hid hr
  replace hzv := Lib.hid hzv
  replace hq := Lib.hid hq
  clear hz1 hz2 hz3 st1 st2 st3 lt1 lt2 lt3 hst hL hl
  go_enter Tryz.func10, Tryz.ntmps10
  go_upto_region 1 with fail
  clear hWa hWb hWc hWd hBB hRB hSB
  go_wp2_with fail
  go_loopw [9] (fun v9 wr => ∃ (q : Nat) (mq : Ml) (ab : Option Addr) (nb cb : Nat) (ah : Option Addr) (ch : Nat) (as_ : Option Addr) (cs : Nat), v9 = .int .i64 q ∧ q ≤ l.length ∧ Hid (mq = laterM m ((l.map (·.1)).take q)) ∧ Hid (Zoo W wr [boxT SB zBx.toArray 33, boxT RB zMl.toArray 27, boxT BB [.string inboxS, .int .u64 zv, .int .u64 zx, .int .u64 zh, .slice za zl zc].toArray 33, boxT MB (sC ab nb cb mq ah ch as_ cs).toArray 27]) ∧ Hid (Stay (okL (SB :: RB :: BB :: MB :: L)) wr fun x => MlIn x (.agg (sC ab nb cb mq ah ch as_ cs).toArray) mq) ∧ Hid (∀ b ∈ SB :: RB :: BB :: MB :: L, b < wr.heap.size)) (fun v9 _ => l.length - (intOf v9).toNat)
  case atStart => exact ⟨0, m, ab, nb, cb, ah, ch, as_, cs, rfl, Nat.zero_le _, Lib.hid rfl, hz4, st4, lt4⟩
  case round =>
    clear hz4 st4 lt4
    obtain ⟨q, mq, ab1, nb1, cb1, ah1, ch1, as1, cs1, rfl, hqle, hmq, hz, st, lt⟩ := hrel
    have hrq : Hid (RightP mq) := Lib.hid (by rw [hmq.out]; exact later_right hr.out _)
    by_cases hlt : q < l.length
    · obtain ⟨b, bo, cap, hv, hbl, hcr⟩ := hlr.out q hlt
      injection hv with q1 q2 q3
      subst q1 q3
      have hqok := Lib.hid (hq.out _ (List.getElem_mem hlt))
      have hrqi : Hid (∀ W', Below W.heap.size W W' → RqIn W' l[q].1 l[q].2) := Lib.hid (fun W' hB => (hl0.out W' hB).2 _ (List.getElem_mem hlt))
      have hnx : Hid ((applyM mq l[q].1).1 = laterM m ((l.map (·.1)).take (q + 1))) := Lib.hid (by
        have hlm : q < (l.map (·.1)).length := by rw [List.length_map]; exact hlt
        rw [List.take_succ_eq_append_getElem hlm, laterM_snoc, ← hmq.out, List.getElem_map])
      obtain ⟨⟨rq, y⟩, hx⟩ : ∃ x, l[q] = x := ⟨_, rfl⟩
      rw [hx] at hcr hqok hrqi hnx
      dsimp only at hcr hqok hrqi hnx
      have hl0' : (0 : Int) ≤ (q : Int) := by omega
      have hl1 : (q : Int) < (l.length : Int) := by omega
      replace hcr := Lib.hid hcr
      clear hx hbl hmq
      go_upto_region 4 with fail
      have hzd := hz.out.drew
      have hdr := (Below.refl wr.heap.size wr).drew
      have std := st.out.below hdr
      have ltd := ltL_below lt.out hdr.size
      have hSn : Hid ((wr.drew.heap[MB]? = some (.cells (sC ab1 nb1 cb1 mq ah1 ch1 as1 cs1).toArray 27 (0, 0))) ∧ ∀ r u, (rqCells rq y)[r]? = some u → wr.drew.cell? ⟨b, bo + q * 17 + r, none⟩ = some u) := Lib.hid ⟨(hzd.box 3 rfl).1, hcr.out _ hzd.bel⟩
      refine wp_region_hdP 9 (fun e w' => Hid (e = false → (w'.heap[MB]? = some (.cells (sC ab1 nb1 cb1 mq ah1 ch1 as1 cs1).toArray 27 (0, 0))) ∧ ∀ r u, (rqCells rq y)[r]? = some u → w'.cell? ⟨b, bo + q * 17 + r, none⟩ = some u)) 10 0 (by kernel_rfl) rfl ⟨by kernel_rfl, by kernel_rfl⟩ (Lib.hid fun _ => hSn.out) (fun hok hS0 => ?_)
      clear hS0 hz st lt hdr
      generalize wr.drew = wd at *
      refine HdP.take (i := 0) (v := .agg (sC ab1 nb1 cb1 mq ah1 ch1 as1 cs1).toArray) hok rfl (by kernel_rfl) (fun _ _ _ h => h) (by decide) (yields_load_cells 27 (.tmp 3) rfl MB 0 (sC ab1 nb1 cb1 mq ah1 ch1 as1 cs1) (by rfl) Tryz.isAgg27 Tryz.sizeOf27 rfl (fun W hS j v hj => by rw [Nat.zero_add, box_cell ((hS.early (by kernel_rfl)).out rfl).1 j, List.getElem?_toArray]; exact hj)) (Lib.hid fun _ => hSn.out) ?_
      try simp only [List.getElem_toArray, List.getElem_cons_succ, List.getElem_cons_zero, Act.put, List.setIfInBounds_toArray, List.set_cons_zero, List.set_cons_succ]
      refine HdP.take (i := 1) (v := ?tv319) hok rfl (by kernel_rfl) (fun _ _ _ h => h) (by decide) (Or.inl ⟨by rfl, ?ty319⟩) (Lib.hid fun _ => hSn.out) ?tr319
      case ty319 => (intro w hSw; clear hSw; go_simp; (try with_reducible rfl))
      try simp only [List.getElem_toArray, List.getElem_cons_succ, List.getElem_cons_zero, Act.put, List.setIfInBounds_toArray, List.set_cons_zero, List.set_cons_succ]
      refine HdP.take (i := 2) (v := ?tv320) hok rfl (by kernel_rfl) (fun _ _ _ h => h) (by decide) (Or.inl ⟨by rfl, ?ty320⟩) (Lib.hid fun _ => hSn.out) ?tr320
      case ty320 => (intro w hSw; clear hSw; go_simp; (try with_reducible rfl))
      try simp only [List.getElem_toArray, List.getElem_cons_succ, List.getElem_cons_zero, Act.put, List.setIfInBounds_toArray, List.set_cons_zero, List.set_cons_succ]
      refine HdP.take (i := 3) (v := ?tv321) hok rfl (by kernel_rfl) (fun _ _ _ h => h) (by decide) (Or.inl ⟨by rfl, ?ty321⟩) (Lib.hid fun _ => hSn.out) ?tr321
      case ty321 => (intro w hSw; clear hSw; go_simp; (try with_reducible rfl))
      try simp only [List.getElem_toArray, List.getElem_cons_succ, List.getElem_cons_zero, Act.put, List.setIfInBounds_toArray, List.set_cons_zero, List.set_cons_succ]
      refine HdP.take (i := 4) (v := .agg (rqCells rq y).toArray) hok rfl (by kernel_rfl) (fun _ _ _ h => h) (by decide) (yields_load_cells 68 (.tmp 22) rfl b (bo + q * 17) (rqCells rq y) (by rfl) Tryz.isAgg68 Tryz.sizeOf68 rfl (fun W hS j v hj => ((hS.early (by kernel_rfl)).out rfl).2 j v hj)) (Lib.hid fun _ => hSn.out) ?_
      try simp only [List.getElem_toArray, List.getElem_cons_succ, List.getElem_cons_zero, Act.put, List.setIfInBounds_toArray, List.set_cons_zero, List.set_cons_succ]
      refine HdP.one (i := 5) rfl (by kernel_rfl) (fun K hK => ?_)
      go_simp
      refine (apply_any _ std.now hrq.out.ap (hrqi.out _ hzd.bel) hqok.out).mono ?_
      rintro e w5 ⟨sv, ov, rfl, hsv, -, hb5⟩
      dsimp only
      obtain ⟨ab2, cb2, nb2, ah2, ch2, as2, cs2, rfl⟩ := hsv.out.now.out_
      have hz5 := hzd.below hb5.out
      have st5 := hsv.out.okL ltd
      have lt5 := ltL_below ltd hb5.out.size
      have hSn : Hid ((w5.heap[MB]? = some (.cells (sC ab1 nb1 cb1 mq ah1 ch1 as1 cs1).toArray 27 (0, 0))) ∧ ∀ r u, (rqCells rq y)[r]? = some u → w5.cell? ⟨b, bo + q * 17 + r, none⟩ = some u) := Lib.hid ⟨(hz5.box 3 rfl).1, hcr.out _ hz5.bel⟩
      refine hK _ _ (Lib.hid fun _ => hSn.out) ?_
      clear hK K hsv hb5 std hzd ltd
      try simp only [List.getElem_toArray, List.getElem_cons_succ, List.getElem_cons_zero, Act.put, List.setIfInBounds_toArray, List.set_cons_zero, List.set_cons_succ]
      refine HdP.take (i := 6) (v := ?tv322) hok rfl (by kernel_rfl) (fun _ _ _ h => h) (by decide) (Or.inl ⟨by rfl, ?ty322⟩) (Lib.hid fun _ => hSn.out) ?tr322
      case ty322 => (intro w hSw; clear hSw; go_simp; (try with_reducible rfl))
      try simp only [List.getElem_toArray, List.getElem_cons_succ, List.getElem_cons_zero, Act.put, List.setIfInBounds_toArray, List.set_cons_zero, List.set_cons_succ]
      refine HdP.take (i := 7) (v := ?tv323) hok rfl (by kernel_rfl) (fun _ _ _ h => h) (by decide) (Or.inl ⟨by rfl, ?ty323⟩) (Lib.hid fun _ => hSn.out) ?tr323
      case ty323 => (intro w hSw; clear hSw; go_simp; (try with_reducible rfl))
      try simp only [List.getElem_toArray, List.getElem_cons_succ, List.getElem_cons_zero, Act.put, List.setIfInBounds_toArray, List.set_cons_zero, List.set_cons_succ]
      refine HdP.take (i := 8) (v := ?tv324) hok rfl (by kernel_rfl) (fun _ _ _ h => h) (by decide) (Or.inl ⟨by rfl, ?ty324⟩) (Lib.hid fun _ => hSn.out) ?tr324
      case ty324 => (intro w hSw; clear hSw; go_simp; (try with_reducible rfl))
      try simp only [List.getElem_toArray, List.getElem_cons_succ, List.getElem_cons_zero, Act.put, List.setIfInBounds_toArray, List.set_cons_zero, List.set_cons_succ]
      generalize (applyM mq rq).1 = m2 at hnx st5 ⊢
      obtain ⟨hbM, -⟩ := hz5.box 3 rfl
      have z0 := box_cell hbM 0
      have z1 := box_cell hbM 1
      have z2 := box_cell hbM 2
      have z3 := box_cell hbM 3
      have z4 := box_cell hbM 4
      have z5 := box_cell hbM 5
      simp [sC] at z0 z1 z2 z3 z4 z5
      have f0 := box_free hbM 0
      have f1 := box_free hbM 1
      have f2 := box_free hbM 2
      have f3 := box_free hbM 3
      have f4 := box_free hbM 4
      have f5 := box_free hbM 5
      have hz6 := hz5.fillBox 3 rfl (sC ab2 nb2 cb2 m2 ah2 ch2 as2 cs2) rfl
      have st6 := st5.setL (B := MB) (by simp) (sC ab2 nb2 cb2 m2 ah2 ch2 as2 cs2)
      have lt6 := ltL_below lt5 (Nat.le_of_eq (by simp [World.setCells, sC] : w5.heap.size = (w5.setCells MB 0 (sC ab2 nb2 cb2 m2 ah2 ch2 as2 cs2)).heap.size))
      clear hSn hcr
      refine HdP.one (i := 9) rfl (by kernel_rfl) (fun K hK => ?_)
      go_simp
      simp only [World.setCells, sC, Nat.zero_add] at hz6 st6 lt6
      refine hK _ _ (Lib.hid fun h => by cases h) ?_
      clear hK K
      try simp only [List.getElem_toArray, List.getElem_cons_succ, List.getElem_cons_zero, Act.put, List.setIfInBounds_toArray, List.set_cons_zero, List.set_cons_succ]
      refine HdP.done (by kernel_rfl) ?_
      simp only [List.drop_succ_cons, List.drop_zero]
      replace hz6 := Lib.hid hz6
      replace st6 := Lib.hid st6
      replace lt6 := Lib.hid lt6
      clear hok z0 z1 z2 z3 z4 z5 f0 f1 f2 f3 f4 f5 hbM hz5 st5 lt5
      go_wp2_with fail
      go_roundw
      case rel => exact ⟨q + 1, m2, ab2, nb2, cb2, ah2, ch2, as2, cs2, by go_num, by omega, hnx, hz6, st6, lt6⟩
      case measure => simp [intOf] <;> omega
    · obtain rfl : q = l.length := by omega
      have hmf : Hid (mq = laterM m (l.map (·.1))) := Lib.hid (by
        have h1 := hmq.out
        rwa [List.take_of_length_le (by rw [List.length_map]; exact Nat.le_refl _)] at h1)
      obtain ⟨bi, hbi, hbv⟩ := hzv.out
      obtain ⟨t, ht, hev⟩ := later_inbox hr.out hbi (l.map (·.1))
      rw [← hmf.out] at ht
      have htv : Hid (t.validity = zv) := Lib.hid (hev.val.trans hbv)
      replace ht := Lib.hid ht
      have hfd := Lib.hid (findS_any _ mq wr st.out.now hrq.out.sized inboxS)
      obtain ⟨hbM, -⟩ := hz.out.box 3 rfl
      have x0 : wr.cell? ⟨MB, 0, none⟩ = some (.slice ab1 nb1 cb1) := box_cell hbM 0
      have x1 : wr.cell? ⟨MB, 1, none⟩ = some (.int .u64 mq.nv) := box_cell hbM 1
      have x2 : wr.cell? ⟨MB, 2, none⟩ = some (.slice ah1 mq.homes.length ch1) := box_cell hbM 2
      have x3 : wr.cell? ⟨MB, 3, none⟩ = some (.slice as1 mq.seats.length cs1) := box_cell hbM 3
      have x4 : wr.cell? ⟨MB, 4, none⟩ = some (.int .u64 mq.ns) := box_cell hbM 4
      have x5 : wr.cell? ⟨MB, 5, none⟩ = some (.int .u64 mq.sweeps) := box_cell hbM 5
      obtain ⟨hbB, -⟩ := hz.out.box 2 rfl
      have y0 : wr.cell? ⟨BB, 0, none⟩ = some (.string inboxS) := box_cell hbB 0
      unfold sC at hfd
      clear hbM hbB hmq hev hbi hbv hqle hlt
      go_wp2_with (go_at_call 21; refine hfd.out.mono ?_; rintro e w4 ⟨z, rfl, hzb, hzl, hb4⟩; clear x0 x1 x2 x3 x4 x5 y0; refine Hid.out ?_)
      obtain ⟨nm, vl, nx, hi, rows, az, cz⟩ := z
      unfold bxAgg bxCells BxV.v
      dsimp only
      have hzb2 : Hid (findM mq inboxS = some (BxV.b ⟨nm, vl, nx, hi, rows, az, cz⟩)) := Lib.hid (by rw [hzb.out]; show findM mq inboxS = some ((findM mq inboxS).getD bx0.b); rw [ht.out]; rfl)
      have hvl : Hid (vl = zv) := Lib.hid (by
        have h1 := hzb2.out
        rw [ht.out] at h1
        have h2 := Option.some.inj h1
        rw [← htv.out, h2]; rfl)
      have his : Hid ((findM mq inboxS).isSome = true) := Lib.hid (by rw [ht.out]; rfl)
      have st4 := st.out.below hb4.out
      have sl4 := (hzl.out.okL lt.out)
      have hz4 := (hz.out.below hb4.out)
      have hz5 := Lib.hid (hz4.newBox [.string nm, .int .u64 vl, .int .u64 nx, .int .u64 hi, .slice az rows.length cz].toArray 33)
      have st5 := Lib.hid (st4.allocL (.cells [.string nm, .int .u64 vl, .int .u64 nx, .int .u64 hi, .slice az rows.length cz].toArray 33))
      have sl5 := Lib.hid (sl4.allocL (.cells [.string nm, .int .u64 vl, .int .u64 nx, .int .u64 hi, .slice az rows.length cz].toArray 33))
      clear hzb hzl hb4 hz st hfd ht st4 sl4 hz4 lt
      rw [his.out]
      refine Lib.hid ?_
      generalize hQB : w4.heap.size = QB at hz5 st5 sl5
      go_upto_region 6 with fail
      generalize (w4.alloc (.cells [.string nm, .int .u64 vl, .int .u64 nx, .int .u64 hi, .slice az rows.length cz].toArray 33)) = w5 at hz5 st5 sl5 ⊢
      have hzd := hz5.out.drew
      have hdr := ((Below.refl w5.heap.size w5).drew)
      have sd5 := st5.out.below hdr
      have sld5 := sl5.out.below hdr
      obtain ⟨hbM, -⟩ := hzd.box 4 rfl
      obtain ⟨hbB, -⟩ := hzd.box 3 rfl
      obtain ⟨hbQ, -⟩ := hzd.box 0 rfl
      have e1 : ((vl : Int) == (zv : Int)) = true := by rw [hvl.out]; simp
      refine wp_region_hd (fun w' => (w'.cell? ⟨MB, 0, none⟩ = some (.slice ab1 nb1 cb1) ∧ w'.cell? ⟨MB, 1, none⟩ = some (.int .u64 mq.nv) ∧ w'.cell? ⟨MB, 2, none⟩ = some (.slice ah1 mq.homes.length ch1) ∧ w'.cell? ⟨MB, 3, none⟩ = some (.slice as1 mq.seats.length cs1) ∧ w'.cell? ⟨MB, 4, none⟩ = some (.int .u64 mq.ns) ∧ w'.cell? ⟨MB, 5, none⟩ = some (.int .u64 mq.sweeps)) ∧ (w'.cell? ⟨QB, 0, none⟩ = some (.string nm) ∧ w'.cell? ⟨QB, 1, none⟩ = some (.int .u64 vl) ∧ w'.cell? ⟨QB, 2, none⟩ = some (.int .u64 nx) ∧ w'.cell? ⟨QB, 3, none⟩ = some (.int .u64 hi) ∧ w'.cell? ⟨QB, 4, none⟩ = some (.slice az rows.length cz)) ∧ w'.cell? ⟨BB, 1, none⟩ = some (.int .u64 zv)) 12 1 (by kernel_rfl) rfl ⟨by kernel_rfl, by kernel_rfl, by kernel_rfl, by decide⟩ ⟨⟨box_cell hbM 0, box_cell hbM 1, box_cell hbM 2, box_cell hbM 3, box_cell hbM 4, box_cell hbM 5⟩, ⟨box_cell hbQ 0, box_cell hbQ 1, box_cell hbQ 2, box_cell hbQ 3, box_cell hbQ 4⟩, box_cell hbB 1⟩ (fun hok hS0 => ?_)
      generalize w5.drew = wd at *
      refine Hd.take (i := 0) (v := ?tv309) hok rfl (by kernel_rfl) (fun _ _ _ h => h) (Or.inl ⟨by rfl, ?ty309⟩) (by assumption) ?tr309
      case ty309 => (intro w hSw; (try dsimp only at hSw); go_simp; (try with_reducible rfl))
      try simp only [List.getElem_toArray, List.getElem_cons_succ, List.getElem_cons_zero, Act.put, List.setIfInBounds_toArray, List.set_cons_zero, List.set_cons_succ]
      refine Hd.take (i := 1) (v := ?tv310) hok rfl (by kernel_rfl) (fun _ _ _ h => h) (Or.inl ⟨by rfl, ?ty310⟩) (by assumption) ?tr310
      case ty310 => (intro w hSw; (try dsimp only at hSw); go_simp; (try with_reducible rfl))
      try simp only [List.getElem_toArray, List.getElem_cons_succ, List.getElem_cons_zero, Act.put, List.setIfInBounds_toArray, List.set_cons_zero, List.set_cons_succ]
      refine Hd.take (i := 2) (v := ?tv311) hok rfl (by kernel_rfl) (fun _ _ _ h => h) (Or.inl ⟨by rfl, ?ty311⟩) (by assumption) ?tr311
      case ty311 => (intro w hSw; (try dsimp only at hSw); go_simp; (try with_reducible rfl))
      try simp only [List.getElem_toArray, List.getElem_cons_succ, List.getElem_cons_zero, Act.put, List.setIfInBounds_toArray, List.set_cons_zero, List.set_cons_succ]
      refine Hd.take (i := 3) (v := ?tv312) hok rfl (by kernel_rfl) (fun _ _ _ h => h) (Or.inl ⟨by rfl, ?ty312⟩) (by assumption) ?tr312
      case ty312 => (intro w hSw; (try dsimp only at hSw); go_simp; (try with_reducible rfl))
      try simp only [List.getElem_toArray, List.getElem_cons_succ, List.getElem_cons_zero, Act.put, List.setIfInBounds_toArray, List.set_cons_zero, List.set_cons_succ]
      refine Hd.take (i := 4) (v := ?tv313) hok rfl (by kernel_rfl) (fun _ _ _ h => h) (Or.inl ⟨by rfl, ?ty313⟩) (by assumption) ?tr313
      case ty313 => (intro w hSw; (try dsimp only at hSw); go_simp; (try with_reducible rfl))
      try simp only [List.getElem_toArray, List.getElem_cons_succ, List.getElem_cons_zero, Act.put, List.setIfInBounds_toArray, List.set_cons_zero, List.set_cons_succ]
      refine Hd.take (i := 5) (v := ?tv314) hok rfl (by kernel_rfl) (fun _ _ _ h => h) (Or.inl ⟨by rfl, ?ty314⟩) (by assumption) ?tr314
      case ty314 => (intro w hSw; (try dsimp only at hSw); go_simp; (try with_reducible rfl))
      try simp only [List.getElem_toArray, List.getElem_cons_succ, List.getElem_cons_zero, Act.put, List.setIfInBounds_toArray, List.set_cons_zero, List.set_cons_succ]
      refine Hd.take (i := 6) (v := ?tv315) hok rfl (by kernel_rfl) (fun _ _ _ h => h) (Or.inl ⟨by rfl, ?ty315⟩) (by assumption) ?tr315
      case ty315 => (intro w hSw; (try dsimp only at hSw); go_simp; (try with_reducible rfl))
      try simp only [List.getElem_toArray, List.getElem_cons_succ, List.getElem_cons_zero, Act.put, List.setIfInBounds_toArray, List.set_cons_zero, List.set_cons_succ]
      refine Hd.take (i := 7) (v := ?tv316) hok rfl (by kernel_rfl) (fun _ _ _ h => h) (Or.inl ⟨by rfl, ?ty316⟩) (by assumption) ?tr316
      case ty316 => (intro w hSw; (try dsimp only at hSw); go_simp; (try with_reducible rfl))
      try simp only [List.getElem_toArray, List.getElem_cons_succ, List.getElem_cons_zero, Act.put, List.setIfInBounds_toArray, List.set_cons_zero, List.set_cons_succ]
      refine Hd.take (i := 8) (v := ?tv317) hok rfl (by kernel_rfl) (fun _ _ _ h => h) (Or.inl ⟨by rfl, ?ty317⟩) (by assumption) ?tr317
      case ty317 => (intro w hSw; (try dsimp only at hSw); go_simp; (try with_reducible rfl))
      try simp only [List.getElem_toArray, List.getElem_cons_succ, List.getElem_cons_zero, Act.put, List.setIfInBounds_toArray, List.set_cons_zero, List.set_cons_succ]
      refine Hd.take (i := 9) (v := ?tv318) hok rfl (by kernel_rfl) (fun _ _ _ h => h) (Or.inl ⟨by rfl, ?ty318⟩) (by assumption) ?tr318
      case ty318 => (intro w hSw; (try dsimp only at hSw); go_simp; (try with_reducible rfl))
      try simp only [List.getElem_toArray, List.getElem_cons_succ, List.getElem_cons_zero, Act.put, List.setIfInBounds_toArray, List.set_cons_zero, List.set_cons_succ]
      obtain ⟨hbR, -⟩ := hzd.box 2 rfl
      have z0 := box_cell hbR 0
      have z1 := box_cell hbR 1
      have z2 := box_cell hbR 2
      have z3 := box_cell hbR 3
      have z4 := box_cell hbR 4
      have z5 := box_cell hbR 5
      simp [zMl] at z0 z1 z2 z3 z4 z5
      have f0 := box_free hbR 0
      have f1 := box_free hbR 1
      have f2 := box_free hbR 2
      have f3 := box_free hbR 3
      have f4 := box_free hbR 4
      have f5 := box_free hbR 5
      have hz6 := hzd.fillBox 2 rfl [.slice ab1 nb1 cb1, .int .u64 mq.nv, .slice ah1 mq.homes.length ch1, .slice as1 mq.seats.length cs1, .int .u64 mq.ns, .int .u64 mq.sweeps] rfl
      have st6 := sd5.setL (B := RB) (by simp) [.slice ab1 nb1 cb1, .int .u64 mq.nv, .slice ah1 mq.homes.length ch1, .slice as1 mq.seats.length cs1, .int .u64 mq.ns, .int .u64 mq.sweeps]
      have sl6 := sld5.setL (B := RB) (by simp) [.slice ab1 nb1 cb1, .int .u64 mq.nv, .slice ah1 mq.homes.length ch1, .slice as1 mq.seats.length cs1, .int .u64 mq.ns, .int .u64 mq.sweeps]
      simp only [World.setCells, Nat.zero_add] at hz6 st6 sl6
      refine Hd.one (i := 10) rfl (by kernel_rfl) (fun K hK => ?_)
      go_simp
      generalize hw6 : (((((wd.setCell ⟨RB, 0, none⟩ _).setCell ⟨RB, 1, none⟩ _).setCell ⟨RB, 2, none⟩ _).setCell ⟨RB, 3, none⟩ _).setCell ⟨RB, 4, none⟩ _).setCell ⟨RB, 5, none⟩ _ = w6 at hz6 st6 sl6 ⊢
      obtain ⟨hbM, -⟩ := hz6.box 4 rfl
      obtain ⟨hbB, -⟩ := hz6.box 3 rfl
      obtain ⟨hbQ, -⟩ := hz6.box 0 rfl
      refine hK _ _ ⟨⟨box_cell hbM 0, box_cell hbM 1, box_cell hbM 2, box_cell hbM 3, box_cell hbM 4, box_cell hbM 5⟩, ⟨box_cell hbQ 0, box_cell hbQ 1, box_cell hbQ 2, box_cell hbQ 3, box_cell hbQ 4⟩, box_cell hbB 1⟩ ?_
      clear hK K hw6 z0 z1 z2 z3 z4 z5 f0 f1 f2 f3 f4 f5 hbR sd5 sld5 hzd
      try simp only [List.getElem_toArray, List.getElem_cons_succ, List.getElem_cons_zero, Act.put, List.setIfInBounds_toArray, List.set_cons_zero, List.set_cons_succ]
      obtain ⟨hbS, -⟩ := hz6.box 1 rfl
      have y0 := box_cell hbS 0
      have y1 := box_cell hbS 1
      have y2 := box_cell hbS 2
      have y3 := box_cell hbS 3
      have y4 := box_cell hbS 4
      simp [zBx] at y0 y1 y2 y3 y4
      have g0 := box_free hbS 0
      have g1 := box_free hbS 1
      have g2 := box_free hbS 2
      have g3 := box_free hbS 3
      have g4 := box_free hbS 4
      have hz7 := hz6.fillBox 1 rfl [.string nm, .int .u64 vl, .int .u64 nx, .int .u64 hi, .slice az rows.length cz] rfl
      have st7 := Lib.hid ((st6.setL (B := SB) (by simp) [.string nm, .int .u64 vl, .int .u64 nx, .int .u64 hi, .slice az rows.length cz]).lessL (L' := L) (fun b hb => by simp [hb]))
      have sl7 := Lib.hid ((sl6.setL (B := SB) (by simp) [.string nm, .int .u64 vl, .int .u64 nx, .int .u64 hi, .slice az rows.length cz]).lessL (L' := L) (fun b hb => by simp [hb]))
      simp only [World.setCells, Nat.zero_add] at hz7 st7 sl7
      refine Hd.one (i := 11) rfl (by kernel_rfl) (fun K hK => ?_)
      go_simp
      generalize hw7 : ((((w6.setCell ⟨SB, 0, none⟩ _).setCell ⟨SB, 1, none⟩ _).setCell ⟨SB, 2, none⟩ _).setCell ⟨SB, 3, none⟩ _).setCell ⟨SB, 4, none⟩ _ = w7 at hz7 st7 sl7 ⊢
      obtain ⟨hbM, -⟩ := hz7.box 4 rfl
      obtain ⟨hbB, -⟩ := hz7.box 3 rfl
      obtain ⟨hbQ, -⟩ := hz7.box 0 rfl
      refine hK _ _ ⟨⟨box_cell hbM 0, box_cell hbM 1, box_cell hbM 2, box_cell hbM 3, box_cell hbM 4, box_cell hbM 5⟩, ⟨box_cell hbQ 0, box_cell hbQ 1, box_cell hbQ 2, box_cell hbQ 3, box_cell hbQ 4⟩, box_cell hbB 1⟩ ?_
      clear hK K hw7 y0 y1 y2 y3 y4 g0 g1 g2 g3 g4
      try simp only [List.getElem_toArray, List.getElem_cons_succ, List.getElem_cons_zero, Act.put, List.setIfInBounds_toArray, List.set_cons_zero, List.set_cons_succ]
      refine Hd.done (by kernel_rfl) ?_
      simp only [List.drop_succ_cons, List.drop_zero]
      replace hz7 := Lib.hid hz7
      obtain ⟨hbR7, -⟩ := hz7.out.box 2 rfl
      obtain ⟨hbS7, -⟩ := hz7.out.box 1 rfl
      replace hbR7 := Lib.hid hbR7
      replace hbS7 := Lib.hid hbS7
      clear hok hS0 hbM hbB hbQ hbS hz6 st6 sl6 hz5 st5 sl5 e1
      go_wp2_with fail
      refine bodyPost_ret (results_cells2t rfl _ _ RB SB [.slice ab1 nb1 cb1, .int .u64 mq.nv, .slice ah1 mq.homes.length ch1, .slice as1 mq.seats.length cs1, .int .u64 mq.ns, .int .u64 mq.sweeps] [.string nm, .int .u64 vl, .int .u64 nx, .int .u64 hi, .slice az rows.length cz] rfl rfl hbR7.out hbS7.out Tryz.isAgg27 Tryz.sizeOf27 Tryz.isAgg33 Tryz.sizeOf33) rfl ?_
      rw [← hmf.out]
      exact ⟨_, ⟨nm, vl, nx, hi, rows, az, cz⟩, rfl, hzb2, st7, sl7, Lib.hid hz7.out.bel⟩
end Go.Proofs.YtcnebfmlelcliaaGreat
namespace Go.Proofs.YtcnebfmlelcliaaGreat
open Go.RowKit
section
variable {α : Type} {R : RT α}
/-- v is a row of the call's own that holds l, or the first part of one, with no room behind it -/
def RT.OwnC (R : RT α) (W : World) (v : Value) (l : List α) : Prop := R.Own W v l ∨ ∃ g rest, v = .slice (some ⟨g, 0, none⟩) l.length l.length ∧ R.PR W g l rest
theorem RT.OwnC.len {W : World} {v : Value} {l : List α} (h : R.OwnC W v l) : ∃ a c, v = .slice a l.length c := by
  rcases h with h | ⟨g, rest, rfl, -⟩
  · exact h.len
  · exact ⟨_, _, rfl⟩
theorem RT.OwnC.lt {W : World} {v : Value} {l : List α} (h : R.OwnC W v l) {g : Nat} (hg : v.ownBlock = some g) : g < W.heap.size := by
  rcases h with h | ⟨g', rest, rfl, hr⟩
  · exact h.lt hg
  · injection hg with hg
    subst hg
    exact (Array.getElem?_eq_some_iff.1 hr).1
theorem RT.OwnC.block {W W' : World} {v : Value} {l : List α} (h : R.OwnC W v l) (hk : ∀ g, v.ownBlock = some g → W'.heap[g]? = W.heap[g]?) : R.OwnC W' v l := by
  rcases h with h | ⟨g, rest, rfl, hr⟩
  · exact .inl (h.block hk)
  · exact .inr ⟨g, rest, rfl, (hk g rfl).trans hr⟩
theorem RT.OwnC.below {W W' : World} {v : Value} {l : List α} (h : R.OwnC W v l) (hb : Below W.heap.size W W') : R.OwnC W' v l := h.block (fun g hg => hb.block g (h.lt hg))
theorem RT.OwnC.rd {W : World} {v : Value} {l : List α} (h : R.OwnC W v l) : Rd W v l.length (R.cells l) := by
  rcases h with h | ⟨g, rest, rfl, hr⟩
  · exact h.rd
  · refine ⟨_, _, rfl, .inr ⟨g, 0, rfl, (Array.getElem?_eq_some_iff.1 hr).1, Nat.le_refl _, fun j u hu => ?_⟩⟩
    have hj := (List.getElem?_eq_some_iff.1 hu).1
    rw [Nat.zero_add, cell_at hr j, List.getElem?_toArray, List.getElem?_append_left hj]
    exact hu
theorem RT.OwnC.cut {W : World} {a : Option Addr} {c : Nat} {l : List α} (h : R.OwnC W (.slice a l.length c) l) {i : Nat} (hi : i ≤ l.length) : R.OwnC W (.slice a i i) (l.take i) := by
  have hlt : (l.take i).length = i := by rw [List.length_take]; omega
  have hcl : R.cells l = R.cells (l.take i) ++ R.cells (l.drop i) := by rw [← R.cells_app, List.take_append_drop]
  rcases h with h | ⟨g, rest, he, hr⟩
  · rcases h.2 with ⟨he, hn⟩ | ⟨g, cap, cur, he, hb, hg, hc, hm, hs, ht⟩
    · injection he with e1 e2 e3
      subst e1
      have : i = 0 := by omega
      subst this
      exact .inl (RT.Own.nil R W)
    · injection he with e1 e2 e3
      subst e1
      refine .inr ⟨g, R.cells (l.drop i) ++ cur.toList.drop (l.length * R.K), by rw [hlt], ?_⟩
      unfold RT.PR
      rw [← List.append_assoc, ← hcl, ← ht, List.take_append_drop]
      exact hg
  · injection he with e1 e2 e3
    subst e1
    refine .inr ⟨g, R.cells (l.drop i) ++ rest, by rw [hlt], ?_⟩
    unfold RT.PR
    rw [← List.append_assoc, ← hcl]
    exact hr
/-- a part of it behind an element -/
theorem RT.OwnC.rdDrop {W : World} {g o cap : Nat} {l : List α} (h : R.OwnC W (.slice (some ⟨g, o, none⟩) l.length cap) l) (i : Nat) (hi : i ≤ l.length) (hc : l.length ≤ cap) (n c2 : Nat) (hn : n = l.length - i) (hc2 : c2 = cap - i) : Rd W (.slice (some ⟨g, o + i * R.K, none⟩) n c2) (l.drop i).length (R.cells (l.drop i)) :=
  R.rd_drop h.rd i c2 hi (by omega) n hn
theorem RT.OwnC.rdIf {W : World} {g cap : Nat} {l : List α} (h : R.OwnC W (.slice (some ⟨g, 0, none⟩) l.length cap) l) (i : Nat) (hi : i ≤ l.length) (hc : l.length ≤ cap) : Rd W (.slice (if cap = i then some ⟨g, 0, none⟩ else some ⟨g, i * R.K, none⟩) (l.length - i) (cap - i)) (l.drop i).length (R.cells (l.drop i)) := by
  by_cases e : cap = i
  · rw [if_pos e]
    have h0 : l.length - i = 0 := by omega
    have h1 : l.drop i = [] := List.drop_of_length_le (by omega)
    rw [h1, h0]
    exact ⟨_, _, rfl, .inl rfl⟩
  · rw [if_neg e]
    have := h.rdDrop i hi hc _ _ rfl rfl
    rwa [Nat.zero_add] at this
theorem RT.OwnC.row {W : World} {v : Value} {l : List α} (h : R.OwnC W v l) (hpos : 0 < l.length) : ∃ g cap rest, v = .slice (some ⟨g, 0, none⟩) l.length cap ∧ l.length ≤ cap ∧ g < W.heap.size ∧ R.PR W g l rest ∧ ∀ W' (l' : List α), l'.length = l.length → R.PR W' g l' rest → R.OwnC W' (.slice (some ⟨g, 0, none⟩) l.length cap) l' := by
  rcases h with h | ⟨g, rest, rfl, hr⟩
  · obtain ⟨g, cap, rest, rfl, hc, hg, hr, hback⟩ := h.row hpos
    refine ⟨g, cap, rest, rfl, hc, hg, hr, fun W' l' hl hr' => .inl ?_⟩
    have := hback W' l' l.length (Nat.le_refl _) hl hr'
    rwa [List.take_of_length_le (Nat.le_of_eq hl)] at this
  · exact ⟨g, _, rest, rfl, Nat.le_refl _, (Array.getElem?_eq_some_iff.1 hr).1, hr, fun W' l' hl hr' => .inr ⟨g, rest, by rw [hl], hr'⟩⟩
/-- such a row as a thing -/
def RT.rowC (R : RT α) (v : Value) (l : List α) : Th := ⟨fun F W => R.OwnC W v l ∧ ∀ k, F k ↔ v.ownBlock = some k, fun _ _ h k hk => h.1.lt ((h.2 k).1 hk), fun _ _ _ h hk => ⟨h.1.block (fun g hg => hk g ((h.2 g).2 hg)), h.2⟩⟩
theorem Zoo.ownC {W0 W : World} {L : List Th} {v : Value} {l : List α} (h : Zoo W0 W L) (i : Nat) (hi : L[i]? = some (R.rowC v l)) : R.OwnC W v l := by
  obtain ⟨F, h1, _⟩ := h.get i _ hi
  exact h1.1
theorem Zoo.newRowC {W0 W W' : World} {L : List Th} (h : Zoo W0 W L) (hb : Below W.heap.size W W') {v : Value} {l : List α} (ho : R.OwnC W' v l) (hf : ∀ g, v.ownBlock = some g → W.heap.size ≤ g) : Zoo W0 W' (R.rowC v l :: L) :=
  h.more hb _ (fun k => v.ownBlock = some k) ⟨ho, fun _ => Iff.rfl⟩ hf
/-- one field of one element is written -/
theorem Zoo.putFieldC {W0 W : World} {L : List Th} {v : Value} {l : List α} (h : Zoo W0 W L) (i : Nat) (hi : L[i]? = some (R.rowC v l)) (j : Nat) (hj : j < l.length) (r : Nat) (hr : r < R.K) (u : Value) (x : α) (hx : R.enc x = (R.enc l[j]).set r u) :
    ∃ g cap, v = .slice (some ⟨g, 0, none⟩) l.length cap ∧ W0.heap.size ≤ g ∧ g < W.heap.size ∧ (∀ r, r < R.K → W.cell? ⟨g, j * R.K + r, none⟩ = (R.enc l[j])[r]?) ∧ (∀ k, W.frozen? ⟨g, k, none⟩ = false) ∧ Zoo W0 (W.setCell ⟨g, j * R.K + r, none⟩ u) (L.set i (R.rowC v (l.set j x))) := by
  obtain ⟨F, ⟨ho, hF⟩, hlow, hact⟩ := h.act i _ hi
  obtain ⟨g, cap, rest, rfl, -, hg, hrow, hback⟩ := ho.row (by omega)
  have h2 := hback _ _ (by rw [List.length_set]) (hrow.put j r hj hr u x hx)
  exact ⟨g, cap, rfl, hlow g ((hF g).2 rfl), hg, fun r hr1 => hrow.cell j r hj hr1, hrow.free, hact _ _ _ ⟨h2, fun _ => Iff.rfl⟩ (grows_set hF rfl u (fun k hk => hk))⟩
theorem run_append_emptyC {W : World} {v : Value} {l : List α} (t ty : TypeId) (ht : Tryz.prog.underlying t = some (.slice R.t)) (h : R.OwnC W v l) (ao : Option Addr) (c : Nat) : (Builtin.append_ #[t, t] ty #[v, .slice ao 0 c]).run Tryz.prog W = .ok v W := by
  obtain ⟨i, hi0, hz, hz1, hz2⟩ := info_parts R.info
  rcases h with h | ⟨g, rest, rfl, hr⟩
  · exact run_append_owned_empty 0 t ty R.t i R.K ht hi0 v l.length _ h ao c
  · cases ao <;> simp [Builtin.append_, run_underlying ht, sizeOf, typeInfo, hi0, Builtin.lenOf, Builtin.firstCells, storeCells, loadCells, loadCellsFrom]
/-- 'append(v, v2...)' -/
theorem RT.wp_appendC (R : RT α) {w : World} {o : Oper} {a : Act} {K : Act → World → Prop} {Q : Exit → Act → World → Prop} (s x : Operand)
    (ho : o.op = .call { callee := .builtin .append, args := #[s, x], argTypes := #[R.ts, R.ts] })
    (v v2 : Value) (l news : List α) (hs : a.eval s = v) (hx : a.eval x = v2) (hown : R.OwnC w v l) (h2 : Rd w v2 news.length (R.cells news)) (hlen : l.length + news.length ≤ 1000000)
    (h : ∀ v' w', R.OwnC w' v' (l ++ news) → w.grownBy w' v.ownBlock → (∀ g, v'.ownBlock = some g → v.ownBlock = some g ∨ w.heap.size ≤ g) → K (a.put o.dst v') w') : Oper.wp Tryz.prog o a w K Q := by
  have hbb := R.bb
  have hby : (l.length + news.length) * R.bytes ≤ 140737488355328 := by
    have := Nat.mul_le_mul (show l.length + news.length ≤ 1000000 from hlen) hbb
    omega
  rcases hown with hown | ⟨g, rest, rfl, hr⟩
  · refine wp_append_rd s x R.ts ho 0 R.t _ R.K R.bytes R.und R.info R.zs R.pos v v2 l.length news.length (R.cells l) (R.cells news) hs hx hown h2 (R.cells_len _) (R.cells_one _) (by unfold maxLen; omega) hby (Nat.zero_le _) ?_
    intro v' w' ho' hg' hat
    refine h v' w' (.inl ?_) hg' hat
    unfold RT.Own
    rw [List.length_append, R.cells_app]
    exact ho'
  · obtain ⟨i, hi0, hz, hz1, hz2⟩ := info_parts R.info
    obtain ⟨ao, cap, rfl, h3⟩ := h2
    rcases Nat.eq_zero_or_pos news.length with hn | hm
    · have hnil := List.eq_nil_of_length_eq_zero hn
      subst hnil
      have hrun := run_append_emptyC (R := R) R.ts o.type R.und (.inr ⟨g, rest, rfl, hr⟩ : R.OwnC w _ l) ao cap
      rw [List.length_nil] at hx
      unfold Oper.wp
      simp [execOp, ho, resolve, invoke, builtin, hs, hx, hrun, Result.andThen]
      exact h _ _ (.inr ⟨g, rest, by simp, by simpa using hr⟩) ⟨rfl, rfl, rfl, Nat.le_refl _, fun _ _ _ => rfl⟩ (fun g hg => .inl hg)
    · rcases h3 with h3 | ⟨b, off, rfl, hlt, _, hc⟩
      · omega
      · have hold : ∀ j u, (R.cells l)[j]? = some u → w.cell? ((⟨g, 0, none⟩ : Addr).add j) = some u := fun j u hu => by
          have hj := (List.getElem?_eq_some_iff.1 hu).1
          rw [Addr.add_lit, Nat.zero_add, cell_at hr j, List.getElem?_toArray, List.getElem?_append_left hj]
          exact hu
        obtain ⟨v', w', hrun, r1, r2⟩ := run_append_arg_grows (P := Tryz.prog) w R.ts o.type R.t i R.z R.K R.bytes R.und hi0 hz hz1 hz2 R.zs R.pos ⟨g, 0, none⟩ l.length l.length (R.cells l) (R.cells_len _) hold ⟨b, off, none⟩ news.length cap (R.cells news) (R.cells_len _) (fun j u hu => by rw [Addr.add_lit]; exact hc j u hu) (by omega) (by unfold maxLen; omega) hby
        unfold Oper.wp
        simp [execOp, ho, resolve, invoke, builtin, hs, hx, hrun, Result.andThen]
        refine h v' w' (.inl ?_) ⟨r2.os, r2.tape, r2.output, r2.size, fun k hk _ => r2.block k hk (by simp)⟩ (fun k hk => .inr (World.ownsRow.lt r1 k hk).1)
        have r3 : w'.ownsRow 0 R.t R.K v' (l ++ news).length (R.cells (l ++ news)) := by
          rw [List.length_append, R.cells_app]
          refine ⟨r1.1, ?_⟩
          rcases r1.2 with q | ⟨g1, cap1, cur1, q1, q2, q3⟩
          · exact .inl q
          · exact .inr ⟨g1, cap1, cur1, q1, Nat.zero_le _, q3⟩
        exact r3
theorem RT.wpList_appendC (R : RT α) {w : World} {ops : Array Oper} {rest : List Oper} {o : Oper} {a : Act} {Q : Exit → Act → World → Prop} (hgd : o.guard = none) (s x : Operand)
    (ho : o.op = .call { callee := .builtin .append, args := #[s, x], argTypes := #[R.ts, R.ts] })
    (v v2 : Value) (l news : List α) (hs : a.eval s = v) (hx : a.eval x = v2) (hown : R.OwnC w v l) (h2 : Rd w v2 news.length (R.cells news)) (hlen : l.length + news.length ≤ 1000000)
    (h : ∀ v' w', R.OwnC w' v' (l ++ news) → w.grownBy w' v.ownBlock → (∀ g, v'.ownBlock = some g → v.ownBlock = some g ∨ w.heap.size ≤ g) → wpList Tryz.prog ops Q rest (a.put o.dst v') w') : wpList Tryz.prog ops Q (o :: rest) a w :=
  wpList_plain hgd fun _ hK => R.wp_appendC s x ho v v2 l news hs hx hown h2 hlen fun v' w' h2 h3 h4 => hK _ _ (h v' w' h2 h3 h4)
theorem RT.step_appendC (R : RT α) {w : World} {ops : Array Oper} {o : Oper} {a : Act} {K : Act → World → Prop} {Q : Exit → Act → World → Prop} {E : Prop} (hgd : o.guard = none) (s x : Operand)
    (ho : o.op = .call { callee := .builtin .append, args := #[s, x], argTypes := #[R.ts, R.ts] })
    (v v2 : Value) (l news : List α) (hs : a.eval s = v) (hx : a.eval x = v2) (hown : R.OwnC w v l) (h2 : Rd w v2 news.length (R.cells news)) (hlen : l.length + news.length ≤ 1000000)
    (h : ∀ v' w', R.OwnC w' v' (l ++ news) → w.grownBy w' v.ownBlock → (∀ g, v'.ownBlock = some g → v.ownBlock = some g ∨ w.heap.size ≤ g) → K (a.put o.dst v') w') :
    if Region.wanted o (yielded ops a.tmps) = true then Oper.wp Tryz.prog o a w K Q else E := by
  have hw : Region.wanted o (yielded ops a.tmps) = true := by simp [Region.wanted, hgd]
  rw [if_pos hw]
  exact R.wp_appendC s x ho v v2 l news hs hx hown h2 hlen h
/-- .. and what lies apart from it stays -/
theorem Zoo.appC {W0 W W' : World} {L : List Th} {v v' : Value} {l l' : List α} (h : Zoo W0 W L) (i : Nat) (hi : L[i]? = some (R.rowC v l)) (ho : R.OwnC W' v' l') (hg : W.grownBy W' v.ownBlock) (hat : ∀ g, v'.ownBlock = some g → v.ownBlock = some g ∨ W.heap.size ≤ g) : Zoo W0 W' (L.set i (R.rowC v' l')) := by
  obtain ⟨F, ⟨_, hF⟩, hlow, hact⟩ := h.act i _ hi
  exact hact _ _ _ ⟨ho, fun _ => Iff.rfl⟩ (grows_row hF hg hat)
end
end Go.Proofs.YtcnebfmlelcliaaGreat
namespace Go.Proofs.YtcnebfmlelcliaaGreat
open Go.RowKit
def rowT : RT (Nat × Nat) where
  enc := rngCells
  K := 2
  t := 46
  ts := 36
  z := .agg #[.int .u64 0, .int .u64 0]
  bytes := 16
  len := fun _ => rfl
  one := fun x u hu => by simp [rngCells] at hu; rcases hu with rfl | rfl <;> rfl
  pos := by decide
  und := Tryz.underlying36
  info := by kernel_rfl
  zs := rfl
  bb := by decide
/-- what of a reply counts here: its kind and number, and where its values lie -/
structure Rp where
  kind : Nat
  n : Nat
  va : Option Addr
  vn : Nat
  vc : Nat
def rpCells (y : Rp) : List Value := [.int .i64 y.kind, .string ⟨#[]⟩, .string ⟨#[]⟩, .string ⟨#[]⟩, .int .u64 y.n, .slice none 0 0, .int .u64 0, .slice none 0 0, .string ⟨#[]⟩, .slice y.va y.vn y.vc]
def rpT : RT Rp where
  enc := rpCells
  K := 10
  t := 51
  ts := 42
  z := .agg #[.int .i64 0, .string ⟨#[]⟩, .string ⟨#[]⟩, .string ⟨#[]⟩, .int .u64 0, .slice none 0 0, .int .u64 0, .slice none 0 0, .string ⟨#[]⟩, .slice none 0 0]
  bytes := 160
  len := fun _ => rfl
  one := fun x u hu => by simp [rpCells] at hu; rcases hu with rfl | rfl | rfl | rfl | rfl | rfl | rfl | rfl | rfl | rfl <;> rfl
  pos := by decide
  und := Tryz.underlying42
  info := by kernel_rfl
  zs := rfl
  bb := by decide
/-- what a reply tells -/
def Rp.say (y : Rp) : Nat × Nat := (y.kind, y.n)
theorem rowT_cells (l : List (Nat × Nat)) : rowT.cells l = rangesCells l := rfl
/-- a letter, as a view has it -/
def ltRow (y : LtV) : Nat × Nat := (y.x.uid, y.x.mod)
/-- where a letter of a Uid stands, from one on; 0: there is none -/
def lettI : List LtV → Nat → Nat
  | [], _ => 0
  | r :: l, uid => if r.x.uid = uid then 1 else match lettI l uid with
    | 0 => 0
    | n + 1 => n + 2
end Go.Proofs.YtcnebfmlelcliaaGreat
namespace Go.Proofs.YtcnebfmlelcliaaGreat
set_option linter.unusedSimpArgs false
open Go.RowKit
theorem lettI_none : ∀ {l : List LtV} {uid : Nat}, (∀ r ∈ l, r.x.uid ≠ uid) → lettI l uid = 0
  | [], _, _ => rfl
  | r :: l, uid, h => by
    have h1 : lettI l uid = 0 := lettI_none (fun x hx => h x (by simp [hx]))
    unfold lettI
    rw [if_neg (h r (by simp)), h1]
theorem lettI_at : ∀ {l : List LtV} {uid q : Nat} (hq : q < l.length), (∀ r ∈ l.take q, r.x.uid ≠ uid) → l[q].x.uid = uid → lettI l uid = q + 1
  | r :: l, uid, 0, _, _, h => by unfold lettI; rw [if_pos (by simpa using h)]
  | r :: l, uid, q + 1, hq, h1, h2 => by
    have h3 : lettI l uid = q + 1 := lettI_at (by simpa using hq) (fun x hx => h1 x (by simp [hx])) (by simpa using h2)
    unfold lettI
    rw [if_neg (h1 r (by simp)), h3]
theorem lettI_le : ∀ (l : List LtV) (uid : Nat), lettI l uid ≤ l.length
  | [], _ => Nat.le_refl _
  | r :: l, uid => by
    have := lettI_le l uid
    unfold lettI
    split
    · simp
    · split
      · simp
      · rename_i n h; rw [List.length_cons]; omega
theorem let_no {l : List LtV} {q uid : Nat} (hq : q < l.length) (h : ∀ r ∈ l.take q, r.x.uid ≠ uid) (h2 : l[q].x.uid ≠ uid) : ∀ r ∈ l.take (q + 1), r.x.uid ≠ uid := fun r hr => by
  rw [List.take_succ_eq_append_getElem hq, List.mem_append, List.mem_singleton] at hr
  rcases hr with hr | rfl
  · exact h r hr
  · exact h2
set_option maxHeartbeats 1000000 in
theorem letIs_any (y : LtV) (U uid : Nat) (w : World) (hU : Boxed w U 23 (.int .u64 uid)) :
    Calls Tryz.prog 48 #[.agg #[.int .u64 y.x.uid, .slice y.a y.x.flags.length y.c, .int .u64 y.x.mod, .string y.x.hash, .int .u64 y.x.size], .pointer (some ⟨U, 0, none⟩)] w fun e w' => e = .returned (.bool (decide (y.x.uid = uid))) ∧ Hid (Below w.heap.size w w') := by
  obtain ⟨⟨f, fl, m, hs, sz⟩, a, c⟩ := y
  dsimp only
  have hb := (Below.refl _ w).alloc (Nat.le_refl _) (.cells #[.int .u64 f, .slice a fl.length c, .int .u64 m, .string hs, .int .u64 sz] 66)
  have cU := (boxed_below hU hb).cell
  replace hb := Lib.hid hb
  clear hU
  generalize fl.length = n at cU hb ⊢
  by_cases h : f = uid
  · have e1 : ((f : Int) == (uid : Int)) = true := by rw [h]; simp
    have hd := Lib.hid (decide_eq_true h)
    clear h
    go_enter Tryz.func48, Tryz.ntmps48
    go_wp2_with fail
    go_ret
    exact ⟨by rw [hd.out]; rfl, hb⟩
  · have e1 : ((f : Int) == (uid : Int)) = false := by rw [beq_eq_false_iff_ne]; omega
    have hd := Lib.hid (decide_eq_false h)
    clear h
    go_enter Tryz.func48, Tryz.ntmps48
    go_wp2_with fail
    go_ret
    exact ⟨by rw [hd.out]; rfl, hb⟩
theorem LtsIn.at_ {W : World} {v : Value} {rows : List LtV} (h : LtsIn W v rows) {j : Nat} (hj : j < rows.length) : ∃ b o cap, v = .slice (some ⟨b, o, none⟩) rows.length cap ∧ b < W.heap.size ∧
    W.cell? ⟨b, o + j * 5, none⟩ = some (.int .u64 rows[j].x.uid) ∧ W.cell? ⟨b, o + j * 5 + 1, none⟩ = some (.slice rows[j].a rows[j].x.flags.length rows[j].c) ∧ W.cell? ⟨b, o + j * 5 + 2, none⟩ = some (.int .u64 rows[j].x.mod) ∧ W.cell? ⟨b, o + j * 5 + 3, none⟩ = some (.string rows[j].x.hash) ∧ W.cell? ⟨b, o + j * 5 + 4, none⟩ = some (.int .u64 rows[j].x.size) := by
  obtain ⟨b, o, cap, hv, -, hb, hc⟩ := ltT.rd_cells h.1 hj
  have hc2 : ∀ r u, (ltCells rows[j])[r]? = some u → W.cell? ⟨b, o + j * 5 + r, none⟩ = some u := fun r u hu => by
    have := hc r u hu
    rw [Nat.add_assoc]; exact this
  exact ⟨b, o, cap, hv, hb, hc2 0 _ rfl, hc2 1 _ rfl, hc2 2 _ rfl, hc2 3 _ rfl, hc2 4 _ rfl⟩
set_option maxRecDepth 100000 in
set_option maxHeartbeats 2000000 in
theorem letIdx_any (l : List LtV) (v : Value) (U uid : Nat) (w : World) (hl : l.length ≤ 1000000) (hU : Boxed w U 23 (.int .u64 uid)) (hk : LtsIn w v l) :
    Calls Tryz.prog 47 #[v, .func (.func 48) #[] #[.pointer (some ⟨U, 0, none⟩)]] w fun e w' => e = .returned (.int .i64 ((lettI l uid : Int) - 1)) ∧ Hid (Below w.heap.size w w') := by
  have hk0 := Lib.hid hk
  have hwa := Lib.hid letIs_any
  obtain ⟨ao, cap, rfl, _⟩ := hk.1
  clear hk
  replace hU := Lib.hid hU
  go_enter Tryz.func47, Tryz.ntmps47
  go_wp2_with fail
  go_loopw [8] (fun v8 wr => ∃ q : Nat, v8 = .int .i64 q ∧ q ≤ l.length ∧ Hid (∀ r ∈ l.take q, r.x.uid ≠ uid) ∧ Hid (Below w.heap.size w wr)) (fun v8 _ => l.length - (intOf v8).toNat)
  case atStart => exact ⟨0, rfl, Nat.zero_le _, Lib.hid (by simp), Lib.hid (Below.refl _ _)⟩
  case round =>
    obtain ⟨q, rfl, hq, hno, hb⟩ := hrel
    by_cases hlt : q < l.length
    · obtain ⟨b, o, cap', hv, hbB, c0, c1, c2, c3, c4⟩ := (hk0.out.below hb.out).at_ hlt
      injection hv with q1 q2 q3
      subst q1 q3
      have hstep := let_no hlt hno.out
      have hyes := lettI_at hlt hno.out
      have hcall := Lib.hid (hwa.out l[q] U uid wr (boxed_below hU.out hb.out))
      generalize l[q] = k at c0 c1 c2 c3 c4 hstep hyes hcall
      obtain ⟨⟨kf, kfl, km, kh, ks⟩, ka, kc⟩ := k
      dsimp only at c0 c1 c2 c3 c4 hstep hyes hcall
      generalize kfl.length = kn at c1 hcall
      have hl1 : (q : Int) < (l.length : Int) := by omega
      by_cases hB : kf = uid
      · rw [decide_eq_true hB] at hcall
        have hyy := Lib.hid (hyes hB)
        clear hstep hyes hB
        go_wp2_with fail
        refine hcall.out.mono ?_
        rintro e w3 ⟨rfl, hb3⟩
        have hb4 := Lib.hid (hb.out.trans (hb3.out.mono hb.out.size))
        clear hcall hb3 c0 c1 c2 c3 c4
        go_wp2_with fail
        go_ret
        exact ⟨by rw [hyy.out]; simp, hb4⟩
      · rw [decide_eq_false hB] at hcall
        replace hstep := Lib.hid (hstep hB)
        clear hyes hB
        go_wp2_with fail
        refine hcall.out.mono ?_
        rintro e w3 ⟨rfl, hb3⟩
        have hb4 := Lib.hid (hb.out.trans (hb3.out.mono hb.out.size))
        clear hcall hb3 c0 c1 c2 c3 c4
        go_wp2_with fail
        go_roundw
        case rel => exact ⟨q + 1, by go_num, by omega, hstep, hb4⟩
        case measure => simp [intOf] <;> omega
    · obtain rfl : q = l.length := by omega
      have hz : Hid (lettI l uid = 0) := Lib.hid (lettI_none (by have := hno.out; rwa [List.take_length] at this))
      go_wp2_with fail
      go_ret
      exact ⟨by rw [hz.out]; rfl, hb⟩
set_option maxRecDepth 100000 in
set_option maxHeartbeats 2000000 in
theorem letter_any (z : BxV) (uid : Nat) (w : World) (hl : z.rows.length ≤ 1000000) (hk : LtsIn w z.v z.rows) :
    Calls Tryz.prog 24 #[.agg #[.string z.name, .int .u64 z.validity, .int .u64 z.next, .int .u64 z.high, .slice z.a z.rows.length z.c], .int .u64 uid] w fun e w' => e = .returned (.int .i64 ((lettI z.rows uid : Int) - 1)) ∧ Hid (Below w.heap.size w w') := by
  obtain ⟨nm, vl, nx, hi, rows, a, c⟩ := z
  dsimp only
  obtain ⟨W1, hW1⟩ : ∃ W1, W1 = w.alloc (.cells #[.string nm, .int .u64 vl, .int .u64 nx, .int .u64 hi, .slice a rows.length c] 33) := ⟨_, rfl⟩
  obtain ⟨W2, hW2⟩ : ∃ W2, W2 = W1.alloc (.cells #[.int .u64 uid] 23) := ⟨_, rfl⟩
  have s1 : W1.heap.size = w.heap.size + 1 := by rw [hW1]; simp
  have m2 : Boxed W2 (w.heap.size + 1) 23 (.int .u64 uid) := by rw [hW2, ← s1]; exact cells_new W1 _ _
  have b1 : Below w.heap.size w W1 := by rw [hW1]; exact (Below.refl _ w).alloc (Nat.le_refl _) _
  have b2 : Below W1.heap.size W1 W2 := by rw [hW2]; exact (Below.refl _ W1).alloc (Nat.le_refl _) _
  have bw : Below w.heap.size w W2 := b1.trans (b2.mono b1.size)
  have hk2 : LtsIn W2 (.slice a rows.length c) rows := hk.below bw
  have hcall := letIdx_any rows (.slice a rows.length c) (w.heap.size + 1) uid W2 hl m2 hk2
  rw [hW2, hW1] at hcall bw
  replace hcall := Lib.hid hcall
  replace bw := Lib.hid bw
  clear hk2 m2 b1 b2 s1 hW2 hW1 W1 W2 hk hl
  generalize lettI rows uid = LI at hcall ⊢
  generalize rows.length = rn at hcall bw ⊢
  go_enter Tryz.func24, Tryz.ntmps24
  go_wp2_with fail
  refine hcall.out.mono ?_
  rintro e w1 ⟨rfl, hb⟩
  have hb9 := Lib.hid (bw.out.trans (hb.out.mono bw.out.size))
  clear hb bw hcall
  go_wp2_with fail
  go_ret
  exact ⟨rfl, hb9⟩
end Go.Proofs.YtcnebfmlelcliaaGreat
