/- Sync of the program: walked. -/
import Derived.Test.YtcnebfmlelcliaaB09
import Derived.Test.YtcnebfmlelcliaaB08
import Derived.Test.YtcnebfmlelcliaaB04
import Derived.Deep.DeepCutAuto
import Derived.Deep.QuietTactic
import Derived.BigQuiet
import Derived.Lib.SliceRun
namespace Go.Proofs.Ytcnebfmlelcliaa
set_option linter.unusedSimpArgs false
open Go.RowKit
attribute [local go_sem ↓] Go.wp_at_zero Go.wp_at_succ

theorem Zoo.appR {α : Type} {R : RT α} {W0 W W' : World} {L : List Th} {v v' : Value} {l l' : List α} (h : Zoo W0 W L) (i : Nat) (hi : L[i]? = some (R.row v l)) (ho : R.Own W' v' l') (hg : W.grownBy W' v.ownBlock) (hat : ∀ g, v'.ownBlock = some g → v.ownBlock = some g ∨ W.heap.size ≤ g) : Zoo W0 W' (L.set i (R.row v' l')) := by
  obtain ⟨F, ⟨_, hF⟩, hlow, hact⟩ := h.act i _ hi
  exact hact _ _ _ ⟨ho, fun _ => Iff.rfl⟩ (grows_row hF hg hat)
/-- what of Sync lies in memory: the replies, the rows, the result's box, the mailbox, the view -/
def syL (nm : ByteArray) (val nx hi : Nat) (a : Option Addr) (n c VB BB RB : Nat) (vr vo : Value) (cur : List (Nat × Nat)) (rps : List Rp) : List Th :=
  [rpT.row vo rps, rowT.rowC vr cur, boxT RB [.string ⟨#[]⟩, .int .u64 0, .slice none 0 0].toArray 25, boxT BB [.string nm, .int .u64 val, .int .u64 nx, .int .u64 hi, .slice a n c].toArray 28, boxT VB [.string nm, .int .u64 val, vr].toArray 25]
set_option maxRecDepth 100000 in
set_option maxHeartbeats 16000000 in
theorem sync_any (z : BxV) (l : List (Nat × Nat)) (v : Value) (expunge cond : Bool) (W : World) (hl : l.length ≤ 100000) (hzl : z.rows.length ≤ 100000) (hk : RangesIn W W.heap.size v l) (hb : LtsIn W z.v z.rows) (hfl : ∀ y ∈ z.rows, y.x.flags.length ≤ 100000) :
    Calls Try.prog 23 #[.agg #[.string z.name, .int .u64 z.validity, v], .agg #[.string z.name, .int .u64 z.validity, .int .u64 z.next, .int .u64 z.high, .slice z.a z.rows.length z.c], .bool expunge, .bool cond] W (SyncRet W z.name z.validity l (z.rows.map ltRow) expunge) := by
  obtain ⟨nm, val, nx, hi, rows, a, c⟩ := z
  dsimp only at hzl hb hfl ⊢
  have hb0 := Lib.hid (fun (W' : World) (h : Below W.heap.size W W') => hb.below h)
  have hcl := Lib.hid (fun (W' : World) (h : Below W.heap.size W W') => cloneRows_any l v W' (by omega) (hk.on h))
  have hfl0 := Lib.hid hfl
  obtain ⟨av, cv, hv, -⟩ := hk
  subst hv
  have hz1 := (Zoo.nil W).newBox [.string nm, .int .u64 val, .slice av l.length cv].toArray 25
  generalize hVB : W.heap.size = VB at hz1
  generalize hWa : (W.alloc (.cells [.string nm, .int .u64 val, .slice av l.length cv].toArray 25)) = Wa at hz1
  have hz2 := hz1.newBox [.string nm, .int .u64 val, .int .u64 nx, .int .u64 hi, .slice a rows.length c].toArray 28
  generalize hBB : Wa.heap.size = BB at hz2
  generalize hWb : (Wa.alloc (.cells [.string nm, .int .u64 val, .int .u64 nx, .int .u64 hi, .slice a rows.length c].toArray 28)) = Wb at hz2
  have hz3 := hz2.newBox [.string ⟨#[]⟩, .int .u64 0, .slice none 0 0].toArray 25
  generalize hRB : Wb.heap.size = RB at hz3
  generalize hWc : (Wb.alloc (.cells [.string ⟨#[]⟩, .int .u64 0, .slice none 0 0].toArray 25)) = Wc at hz3
  have hne : (nm.toList != nm.toList) = false := by simp
  have hne2 : ((val : Int) != (val : Int)) = false := by simp
  clear hb hfl
  replace hz3 := Lib.hid hz3
  have hbel := Lib.hid hz3.out.bel
  clear hz1 hz2
  go_enter Try.func23, Try.ntmps23
  go_upto_region 1 with fail
  clear hWa hWb hWc
  obtain ⟨hbV, -⟩ := hz3.out.box 2 rfl
  have x2 : Wc.cell? ⟨VB, 2, none⟩ = some (.slice av l.length cv) := box_cell hbV 2
  have hcl1 := Lib.hid (hcl.out Wc hbel.out)
  clear hbV hcl
  go_wp2_with fail
  refine hcl1.out.mono ?_
  rintro e w1 ⟨v1, rfl, hown, hb1⟩
  have hz4 := Lib.hid ((hz3.out.newRowC (R := rowT) hb1.out (v := v1) (l := l) (.inl (hown.out.low (Nat.zero_le _))) (fun g hg => (World.ownsRow.lt hown.out g hg).1)))
  obtain ⟨a1, c1, rfl⟩ := hown.out.len
  clear hcl1 hown hb1 x2 hz3
  obtain ⟨hbV, -⟩ := hz4.out.box 3 rfl
  have x0 : w1.cell? ⟨VB, 0, none⟩ = some (.string nm) := box_cell hbV 0
  have x1 : w1.cell? ⟨VB, 1, none⟩ = some (.int .u64 val) := box_cell hbV 1
  have x2 : w1.cell? ⟨VB, 2, none⟩ = some (.slice av l.length cv) := box_cell hbV 2
  have f2 := box_free hbV 2
  have hz5 := Lib.hid (hz4.out.setBox (C := [_, _, _]) 3 rfl 2 (.slice a1 l.length c1))
  clear hbV x0 x1
  go_upto_region 3 with fail
  clear x2 f2 hz4
  generalize (w1.setCell ⟨VB, 2, none⟩ (.slice a1 l.length c1)) = w2 at hz5 ⊢
  obtain ⟨hbV, -⟩ := hz5.out.box 3 rfl
  obtain ⟨hbB, -⟩ := hz5.out.box 2 rfl
  have x0 : w2.cell? ⟨VB, 0, none⟩ = some (.string nm) := box_cell hbV 0
  have x1 : w2.cell? ⟨VB, 1, none⟩ = some (.int .u64 val) := box_cell hbV 1
  have x2 : w2.cell? ⟨VB, 2, none⟩ = some (.slice a1 l.length c1) := box_cell hbV 2
  have y0 : w2.cell? ⟨BB, 0, none⟩ = some (.string nm) := box_cell hbB 0
  have y1 : w2.cell? ⟨BB, 1, none⟩ = some (.int .u64 val) := box_cell hbB 1
  clear hbV hbB
  have hz6 : Hid (Zoo W w2 (syL nm val nx hi a rows.length c VB BB RB (.slice a1 l.length c1) (.slice none 0 0) l [])) := Lib.hid (hz5.out.newRow (R := rpT) (Below.refl _ _) (RT.Own.nil rpT w2) (fun g hg => by cases hg))
  clear hz5
  obtain ⟨bb, hbb⟩ : ∃ bb, bb = rows.map ltRow := ⟨_, rfl⟩
  have hbl : bb.length = rows.length := by rw [hbb, List.length_map]
  rw [← hbb]
  replace hbb := Lib.hid hbb
  replace hbl := Lib.hid hbl
  have hw1 : IntKind.i64.wrap ((l.length : Int) - 1) = (l.length : Int) - 1 := by rw [IntKind.wrap_i64]; omega
  generalize hI0 : (l.length : Int) - 1 = I0 at hw1
  replace hI0 := Lib.hid hI0
  clear hbel
  go_wp2_with fail
  go_loopw [10, 11] (fun v10 v11 wr => ∃ (i : Int) (k : Nat) (vr : Value) (cur : List (Nat × Nat)) (rps : List Rp), v11 = .int .i64 i ∧ Hid (i = (k : Int) - 1) ∧ Hid (k ≤ l.length) ∧ Hid (expunge = false → k = l.length) ∧ Hid (ExpI l bb k cur rps) ∧ Hid (Zoo W wr (syL nm val nx hi a rows.length c VB BB RB vr v10 cur rps))) (fun _ v11 _ => (intOf v11 + 1).toNat)
  case atStart => exact ⟨_, l.length, _, l, [], rfl, (by first | exact Lib.hid rfl | exact Lib.hid hI0.out.symm), Lib.hid (Nat.le_refl _), Lib.hid (fun _ => rfl), Lib.hid (ExpI.start l bb), hz6⟩
  case round =>
    clear x0 x1 x2 y0 y1 hz6 hI0 hw1
    obtain ⟨i, k, vr, cur, rps, rfl, hik, hkl, hex, hI, hz⟩ := hrel
    go_upto_region 6 with fail
    go_cut [46] (fun v46 wx => v46 = .bool (decide (0 ≤ i) && expunge) ∧ wr = wx)
    case first =>
      cases hi0 : decide (0 ≤ i) with
      | false =>
        have hi1 : ¬ 0 ≤ i := of_decide_eq_false hi0
        go_wp2_with fail
        go_meet
        case rel => exact ⟨by rw [hi0, Bool.false_and], rfl⟩
      | true =>
        have hi1 : 0 ≤ i := of_decide_eq_true hi0
        go_wp2_with fail
        go_meet
        case rel => exact ⟨by rw [hi0, Bool.true_and], rfl⟩
    case rest =>
      obtain ⟨rfl, rfl⟩ := hcut
      cases hT : (decide (0 ≤ i) && expunge) with
      | false =>
        have hfin : Hid (cur = keptL l bb expunge ∧ rps.map Rp.say = if expunge then expR l bb l.length else []) := Lib.hid (by
          have hik := hik.out
          cases expunge with
          | false =>
            have := hex.out rfl
            subst this
            exact hI.out.none
          | true =>
            have h0 : k = 0 := by
              rw [Bool.and_true] at hT
              have := of_decide_eq_false hT
              omega
            subst h0
            exact hI.out.done)
        obtain ⟨hlk, hlc, hlr⟩ := hI.out.lens hkl.out
        replace hlc := Lib.hid hlc
        replace hlr := Lib.hid hlr
        clear hT hI hik hkl hex hlk
        obtain ⟨a2, c2, hv2⟩ := (hz.out.ownC 1 rfl).len
        subst hv2
        have hgr := Lib.hid (greatest_any nm val cur (.slice a2 cur.length c2) wr (by have := hlc.out; omega) (hz.out.ownC 1 rfl).rd.ranges)
        obtain ⟨hbV, -⟩ := hz.out.box 4 rfl
        have x0 : wr.cell? ⟨VB, 0, none⟩ = some (.string nm) := box_cell hbV 0
        have x1 : wr.cell? ⟨VB, 1, none⟩ = some (.int .u64 val) := box_cell hbV 1
        have x2 : wr.cell? ⟨VB, 2, none⟩ = some (.slice a2 cur.length c2) := box_cell hbV 2
        obtain ⟨M, hM⟩ : ∃ M, mostL cur = M := ⟨_, rfl⟩
        rw [hM] at hgr
        replace hM := Lib.hid hM
        obtain ⟨cn, hcn⟩ : ∃ cn, cur.length = cn := ⟨_, rfl⟩
        rw [hcn] at hgr x2 hz
        replace hcn := Lib.hid hcn
        clear hbV
        go_wp2_with fail
        refine hgr.out.mono ?_
        rintro e w5 ⟨rfl, hb5⟩
        replace hz := Lib.hid (hz.out.below hb5.out)
        clear hgr hb5 x0 x1 x2
        obtain ⟨hbB, -⟩ := hz.out.box 3 rfl
        have y4 : w5.cell? ⟨BB, 4, none⟩ = some (.slice a rows.length c) := box_cell hbB 4
        clear hbB
        go_upto_region 14 with fail
        have hN0 := Lib.hid (NewI.start cur bb)
        go_loopw [85] (fun v85 wr => ∃ (q : Nat) (vr : Value) (cur2 : List (Nat × Nat)), v85 = .int .i64 q ∧ q ≤ rows.length ∧ Hid (NewI cur bb q cur2) ∧ Hid (Zoo W wr (syL nm val nx hi a rows.length c VB BB RB vr u10 cur2 rps))) (fun v85 _ => rows.length - (intOf v85).toNat)
        case atStart => exact ⟨0, _, _, rfl, Nat.zero_le _, hN0, hz⟩
        case round =>
          clear hN0 hz y4
          obtain ⟨q, vr, cur2, rfl, hq, hN, hz⟩ := hrel
          by_cases hlt : q < rows.length
          · have hbq : q < bb.length := by rw [hbl.out]; exact hlt
            have hbx : bb[q] = ltRow rows[q] := by have := hbb.out; subst this; rw [List.getElem_map]
            have hyes := fun hm => hN.out.yes hbq hm
            have hno := fun hm => hN.out.no hbq hm
            rw [hbx, hM.out] at hyes hno
            have hcl := hN.out.lens
            obtain ⟨b, o, cap', hv, hbB, r0, r1, r2, r3, r4⟩ := (hb0.out wr hz.out.bel).at_ hlt
            injection hv with q1 q2 q3
            subst q1 q3
            obtain ⟨y, hy⟩ : ∃ y, rows[q] = y := ⟨_, rfl⟩
            rw [hy] at r0 r1 r2 r3 r4 hyes hno
            obtain ⟨a3, c3, hv3⟩ := (hz.out.ownC 1 rfl).len
            subst hv3
            have hl1 : (q : Int) < (rows.length : Int) := by omega
            have hq0 : (0 : Int) ≤ (q : Int) := by omega
            replace hyes := Lib.hid hyes
            replace hno := Lib.hid hno
            have hcl2 : Hid (cur2.length + 1 ≤ 1000000) := Lib.hid (by have := hlc.out; have := hbl.out; omega)
            clear hN hbx hy hcl hbB
            obtain ⟨⟨uid, fl, md, hs, sz⟩, ya, yc⟩ := y
            dsimp only [ltRow] at r0 r1 r2 r3 r4 hyes hno
            generalize fl.length = fn at r1
            have hnb := hz.out.newBox [.int .u64 uid, .slice ya fn yc, .int .u64 md, .string hs, .int .u64 sz].toArray 66
            generalize hLB : wr.heap.size = LB at hnb
            generalize hWd : (wr.alloc (.cells [.int .u64 uid, .slice ya fn yc, .int .u64 md, .string hs, .int .u64 sz].toArray 66)) = wd at hnb
            replace hnb := Lib.hid hnb
            clear hz
            go_upto_region 16 with fail
            clear hWd r0 r1 r2 r3 r4 hLB
            obtain ⟨hbL, -⟩ := hnb.out.box 0 rfl
            obtain ⟨hbV, -⟩ := hnb.out.box 5 rfl
            have s0 : wd.cell? ⟨LB, 0, none⟩ = some (.int .u64 uid) := box_cell hbL 0
            have s2 : wd.cell? ⟨LB, 2, none⟩ = some (.int .u64 md) := box_cell hbL 2
            have x2 : wd.cell? ⟨VB, 2, none⟩ = some (.slice a3 cur2.length c3) := box_cell hbV 2
            clear hbL hbV
            by_cases hm : M < uid
            · have d1 : decide ((M : Int) < (uid : Int)) = true := decide_eq_true (by omega)
              have d1n : decide (M < uid) = true := decide_eq_true hm
              have hN2 := Lib.hid (hyes.out hm)
              have hza := Lib.hid (hnb.out.alloc (.cells (rngCells (uid, md)).toArray 63))
              have hrd := Lib.hid (RT.Own.one rowT wd (uid, md) wd.heap.size rfl).rd
              clear hyes hno hm hnb
              go_wp2_with (at_builtin; refine RT.wpList_appendC rowT rfl (.tmp 94) (.tmp 100) rfl (.slice a3 cur2.length c3) _ cur2 [(uid, md)] rfl rfl (hza.out.ownC 2 rfl) hrd.out hcl2.out ?_)
              intro v6 w6 ho6 hg6 hat6
              have hz6 := Lib.hid (hza.out.appC 2 rfl ho6 hg6 (fun g hg => (hat6 g hg).imp_right (fun h => by simpa using h)))
              obtain ⟨hbV, -⟩ := hz6.out.box 5 rfl
              have x2 : w6.cell? ⟨VB, 2, none⟩ = some (.slice a3 cur2.length c3) := box_cell hbV 2
              have f2 : w6.frozen? ⟨VB, 2, none⟩ = false := box_free hbV 2
              have hz7 : Hid (Zoo W (w6.setCell ⟨VB, 2, none⟩ v6) (syL nm val nx hi _ rows.length _ VB BB RB v6 u10 (cur2 ++ [(uid, md)]) rps)) := Lib.hid ((hz6.out.setBox (C := [_, _, _]) 5 rfl 2 v6).tail)
              obtain ⟨a6, c6, hv6⟩ := ho6.len
              generalize (cur2 ++ [(uid, md)]).length = n6 at hv6
              subst hv6
              clear ho6 hg6 hat6 hza hrd hz6 hbV s0 s2 d1 d1n
              go_wp2_with fail
              go_roundw
              case rel => exact ⟨q + 1, _, _, by go_num, by omega, hN2, hz7⟩
              case measure => simp [intOf] <;> omega
            · have d1 : decide ((M : Int) < (uid : Int)) = false := decide_eq_false (by omega)
              have d1n : decide (M < uid) = false := decide_eq_false hm
              have hN2 := Lib.hid (hno.out hm)
              have hz7 : Hid (Zoo W wd (syL nm val nx hi _ rows.length _ VB BB RB (.slice a3 cur2.length c3) u10 cur2 rps)) := Lib.hid hnb.out.tail
              clear hyes hno hm hnb x2
              go_wp2_with fail
              go_roundw
              case rel => exact ⟨q + 1, _, _, by go_num, by omega, hN2, hz7⟩
              case measure => simp [intOf] <;> omega
          · have hql : q = bb.length := by have := hbl.out; omega
            subst hql
            have hnew := hN.out.done
            have hfx : Hid (cur2 = keptL l bb expunge ++ newsL (keptL l bb expunge) bb) := Lib.hid (by rw [hnew, ← hfin.out.1])
            clear hN hnew
            obtain ⟨a3, c3, hv3⟩ := (hz.out.ownC 1 rfl).len
            subst hv3
            obtain ⟨hbV, -⟩ := hz.out.box 4 rfl
            have x2 : wr.cell? ⟨VB, 2, none⟩ = some (.slice a3 cur2.length c3) := box_cell hbV 2
            have hl1 : (rows.length : Int) ≤ (bb.length : Int) := by omega
            clear hbV
            have hcap := Lib.hid (show cur2.length ≤ c3 from by
              rcases Nat.eq_zero_or_pos cur2.length with h0 | h0
              · omega
              · exact (hz.out.ownC 1 rfl).rd.cap_le h0)
            have hcl2 : Hid (cur2.length ≤ 200000) := Lib.hid (by
              have h1 := hfx.out
              rw [← hfin.out.1] at h1
              have h2 := newsL_len cur bb
              have := hlc.out
              have := hbl.out
              rw [h1, List.length_append]; omega)
            have hcc : Hid (cn ≤ cur2.length) := Lib.hid (by
              have h1 := hfx.out
              rw [← hfin.out.1] at h1
              rw [h1, List.length_append, hcn.out]; omega)
            have hA : Hid (∀ rps2 : List Rp, rps2.map Rp.say = rps.map Rp.say ++ (if newsL cur bb = [] then [] else [(8, cur2.length)]) → rps2.map Rp.say ++ fetR bb cur 0 = tellR l bb expunge) := Lib.hid (fun rps2 h => by
              have h1 := hfx.out
              have h2 := hfin.out.2
              rw [← hfin.out.1] at h1
              unfold tellR
              rw [h, h2, ← hfin.out.1, List.append_assoc, h1, List.length_append])
            have hnw : Hid (newsL cur bb = [] ↔ ¬ cn < cur2.length) := Lib.hid (by
              have h1 := hfx.out
              rw [← hfin.out.1] at h1
              rw [h1, List.length_append, ← hcn.out]
              constructor
              · intro h; rw [h]; simp
              · intro h; exact List.eq_nil_of_length_eq_zero (by omega))
            obtain ⟨n2, hn2⟩ : ∃ n2, cur2.length = n2 := ⟨_, rfl⟩
            rw [hn2] at x2 hz hcap hcc hA hnw hcl2
            replace hn2 := Lib.hid hn2
            have hw8 : IntKind.u64.wrap (n2 : Int) = (n2 : Int) := by have := hcl2.out; rw [IntKind.wrap_u64]; omega
            go_upto_if 108 with fail
            go_cut [10] (fun v10 wx => ∃ rps2 : List Rp, Hid (rps2.length ≤ l.length + 1) ∧ Hid (rps2.map Rp.say ++ fetR bb cur 0 = tellR l bb expunge) ∧ Hid (Zoo W wx (syL nm val nx hi a rows.length c VB BB RB (.slice a3 n2 c3) v10 cur2 rps2)))
            case first =>
              by_cases hgt : cn < n2
              · have d1 : decide ((cn : Int) < (n2 : Int)) = true := decide_eq_true (by omega)
                have d1n : decide (cn < n2) = true := decide_eq_true hgt
                have hA2 : Hid ((rps ++ [(⟨8, n2, none, 0, 0⟩ : Rp)]).map Rp.say ++ fetR bb cur 0 = tellR l bb expunge) := Lib.hid (hA.out _ (by rw [if_neg (fun h => (hnw.out.1 h) hgt), List.map_append]; rfl))
                have hza := Lib.hid (hz.out.alloc (.cells (rpCells ⟨8, n2, none, 0, 0⟩).toArray 61))
                have hrd := Lib.hid (RT.Own.one rpT wr ⟨8, n2, none, 0, 0⟩ wr.heap.size rfl).rd
                clear hA hnw hz d1 d1n
                go_wp2_with (at_builtin; refine RT.wpList_append rpT rfl (.tmp 109) (.tmp 115) rfl u10 _ rps [⟨8, n2, none, 0, 0⟩] rfl rfl (hza.out.own 0 rfl) hrd.out (by have := hlr.out; simp only [List.length_singleton]; omega) ?_)
                intro v6 w6 ho6 hg6 hat6
                have hz6 : Hid (Zoo W w6 (syL nm val nx hi a rows.length c VB BB RB (.slice a3 n2 c3) v6 cur2 (rps ++ [⟨8, n2, none, 0, 0⟩]))) := Lib.hid (hza.out.appR 0 rfl ho6 hg6 (fun g hg => (hat6 g hg).imp_right (fun h => by simpa using h)))
                clear ho6 hg6 hat6 hza hrd x2
                go_wp2_with fail
                go_meet
                case rel => exact ⟨_, Lib.hid (by have := hlr.out; rw [List.length_append]; simp; omega), hA2, hz6⟩
              · have d1 : decide ((cn : Int) < (n2 : Int)) = false := decide_eq_false (by omega)
                have d1n : decide (cn < n2) = false := decide_eq_false hgt
                have hA2 : Hid (rps.map Rp.say ++ fetR bb cur 0 = tellR l bb expunge) := Lib.hid (hA.out _ (by rw [if_pos (hnw.out.2 hgt), List.append_nil]))
                clear hA hnw d1 d1n
                go_wp2_with fail
                go_meet
                case rel => exact ⟨_, Lib.hid (by have := hlr.out; omega), hA2, hz⟩
            case rest =>
            obtain ⟨rps2, hr2, hT2, hz2⟩ := hcut
            generalize wc = w7 at *
            clear hA hnw hz x2 hw8
            obtain ⟨hbV, -⟩ := hz2.out.box 4 rfl
            have x2 : w7.cell? ⟨VB, 2, none⟩ = some (.slice a3 n2 c3) := box_cell hbV 2
            have hs1 : (cn : Int) ≤ (c3 : Int) := by have := hcap.out; have := hcc.out; omega
            have hs2 : (0 : Int) ≤ (cn : Int) := by omega
            clear hbV
            obtain ⟨T, hTT⟩ : ∃ T, tellR l bb expunge = T := ⟨_, rfl⟩
            obtain ⟨nw, hnwx⟩ : ∃ nw, newsL cur bb = nw := ⟨_, rfl⟩
            have hF0 : Hid (FetI cur bb nw T 0 cur2 rps2) := Lib.hid ⟨by
              have h1 := hfx.out
              rw [← hfin.out.1, hnwx] at h1
              simpa using h1, by rw [← hTT]; exact hT2.out⟩
            have hTl : Hid (T.length ≤ 300000) := Lib.hid (by rw [← hTT]; have := tellR_len l bb expunge; omega)
            replace hTT := Lib.hid hTT
            replace hnwx := Lib.hid hnwx
            go_upto_region 22 with fail
            clear x2 hs1 hT2 hr2
            go_loopw [10, 122] (fun v10 v122 wr => ∃ (q : Nat) (cur3 : List (Nat × Nat)) (rps3 : List Rp), v122 = .int .i64 q ∧ q ≤ cn ∧ Hid (FetI cur bb nw T q cur3 rps3) ∧ Hid (Zoo W wr (syL nm val nx hi a rows.length c VB BB RB (.slice a3 n2 c3) v10 cur3 rps3))) (fun _ v122 _ => cn - (intOf v122).toNat)
            case atStart => exact ⟨0, _, _, rfl, Nat.zero_le _, hF0, hz2⟩
            case round =>
              clear hF0 hz2
              obtain ⟨q, cur3, rps3, rfl, hq, hF, hz⟩ := hrel
              by_cases hlt3 : q < cn
              · have hqc : q < cur.length := by have := hcn.out; omega
                have hcnb : cn ≤ 100000 := by have := hlc.out; have := hcn.out; omega
                obtain ⟨hq3, hg3⟩ := hF.out.at_ hqc
                have hle := hF.out.lens
                have hl3 : cur3.length = n2 := by
                  have h1 := hfx.out
                  rw [← hfin.out.1, hnwx.out] at h1
                  rw [hle.2, ← hn2.out, h1, List.length_append]
                obtain ⟨g, cap, rest, hvr, hcap3, hgl, hpr, -⟩ := (hz.out.ownC 1 rfl).row (by omega)
                rw [hl3] at hvr
                injection hvr with e1 e2 e3
                subst e1 e3
                have r0 : wr.cell? ⟨g, q * 2, none⟩ = some (.int .u64 (cur[q].1 : Nat)) := by have := hpr.cell q 0 hq3 (by decide); rw [hg3] at this; exact this
                have r1 : wr.cell? ⟨g, q * 2 + 1, none⟩ = some (.int .u64 (cur[q].2 : Nat)) := by have := hpr.cell q 1 hq3 (by decide); rw [hg3] at this; exact this
                have hst := fun h => hF.out.still hqc h
                have htu := fun h y hy => hF.out.turn hqc h y hy
                have hrl : Hid (rps3.length ≤ 300000) := Lib.hid (by have := hTl.out; omega)
                have hg3' : Hid (∃ h : q < cur3.length, cur3[q] = cur[q]) := Lib.hid ⟨hq3, hg3⟩
                obtain ⟨x, hx⟩ : ∃ x, cur[q] = x := ⟨_, rfl⟩
                rw [hx] at r0 r1 hst htu hg3'
                have hq0 : (0 : Int) ≤ (q : Int) := by omega
                have hq1 : (q : Int) < (cn : Int) := by omega
                have hq2 : (q : Int) < (n2 : Int) := by omega
                replace hst := Lib.hid hst
                replace htu := Lib.hid htu
                have hl3' := Lib.hid hl3
                have hnb := hz.out.newBox [.int .u64 x.1, .int .u64 x.2].toArray 63
                generalize hLB : wr.heap.size = LB at hnb
                generalize hWd : (wr.alloc (.cells [.int .u64 x.1, .int .u64 x.2].toArray 63)) = wd at hnb
                replace hnb := Lib.hid hnb
                clear hz hF hle hl3 hq3 hg3 hx hpr hcap3 hgl hqc
                go_upto_region 24 with fail
                clear hWd r0 r1 hLB
                obtain ⟨hbL, -⟩ := hnb.out.box 0 rfl
                obtain ⟨hbB, -⟩ := hnb.out.box 4 rfl
                have s0 : wd.cell? ⟨LB, 0, none⟩ = some (.int .u64 x.1) := box_cell hbL 0
                have y0 : wd.cell? ⟨BB, 0, none⟩ = some (.string nm) := box_cell hbB 0
                have y1 : wd.cell? ⟨BB, 1, none⟩ = some (.int .u64 val) := box_cell hbB 1
                have y2 : wd.cell? ⟨BB, 2, none⟩ = some (.int .u64 nx) := box_cell hbB 2
                have y3 : wd.cell? ⟨BB, 3, none⟩ = some (.int .u64 hi) := box_cell hbB 3
                have y4 : wd.cell? ⟨BB, 4, none⟩ = some (.slice a rows.length c) := box_cell hbB 4
                have hcall := Lib.hid (letter_any ⟨nm, val, nx, hi, rows, a, c⟩ x.1 wd (by dsimp only; omega) (hb0.out wd hnb.out.bel))
                dsimp only at hcall
                clear hbL hbB
                go_wp2_with fail
                refine hcall.out.mono ?_
                rintro e w8 ⟨rfl, hb8⟩
                replace hnb := Lib.hid (hnb.out.below hb8.out)
                clear hcall hb8 s0 y0 y1 y2 y3 y4
                obtain ⟨hbL, -⟩ := hnb.out.box 0 rfl
                obtain ⟨hbB, -⟩ := hnb.out.box 4 rfl
                have s1 : w8.cell? ⟨LB, 1, none⟩ = some (.int .u64 x.2) := box_cell hbL 1
                have y4 : w8.cell? ⟨BB, 4, none⟩ = some (.slice a rows.length c) := box_cell hbB 4
                clear hbL hbB
                have hbd : Hid (∀ m, Zoo W (w8.drewN m) (syL nm val nx hi a rows.length c VB BB RB (.slice (some ⟨g, 0, none⟩) n2 c3) u10 cur3 rps3)) := Lib.hid (fun m => hnb.out.tail.below (below_drewN (Below.refl _ _) m))
                cases hL : lettI rows x.1 with
                | zero =>
                  have hF2 := Lib.hid (hst.out (turnR_none (by rw [hbb.out]; exact lettI_zero hL)))
                  clear hL hst htu hg3'
                  go_wp2_with fail
                  go_quiet (fail)
                  go_wp2_with fail
                  go_roundw
                  case rel => exact ⟨q + 1, _, _, by go_num, by omega, hF2, Lib.hid (hbd.out _)⟩
                  case measure => simp [intOf] <;> omega
                | succ L =>
                  obtain ⟨hLl, -, hmo⟩ := lettI_succ hL
                  rw [← hbb.out] at hmo
                  have hii : (((L + 1 : Nat) : Int) - 1) = (L : Int) := by omega
                  rw [hii]
                  have hin8 := hb0.out _ hnb.out.bel
                  have hfl8 := hfl0.out _ (List.getElem_mem hLl)
                  have hfi8 : Hid (∀ W', Below W.heap.size W W' → FlIn W' rows[L].v rows[L].x.flags) := Lib.hid (fun W' hB => (hb0.out W' hB).2 _ (List.getElem_mem hLl))
                  have hcel : Hid (∀ W', Below W.heap.size W W' → ∃ b o cap, Value.slice a rows.length c = .slice (some ⟨b, o, none⟩) rows.length cap ∧ b < W'.heap.size ∧ W'.cell? ⟨b, o + L * 5, none⟩ = some (.int .u64 rows[L].x.uid) ∧ W'.cell? ⟨b, o + L * 5 + 1, none⟩ = some (.slice rows[L].a rows[L].x.flags.length rows[L].c) ∧ W'.cell? ⟨b, o + L * 5 + 2, none⟩ = some (.int .u64 rows[L].x.mod) ∧ W'.cell? ⟨b, o + L * 5 + 3, none⟩ = some (.string rows[L].x.hash) ∧ W'.cell? ⟨b, o + L * 5 + 4, none⟩ = some (.int .u64 rows[L].x.size)) := Lib.hid (fun W' hB => (hb0.out W' hB).at_ hLl)
                  obtain ⟨b, o, cap', hv, -, r0, r1, r2, r3, r4⟩ := hcel.out w8 hnb.out.bel
                  injection hv with q1 q2 q3
                  subst q1 q3
                  have hi0 : (0 : Int) ≤ (L : Int) := by omega
                  have hi1 : (L : Int) < (rows.length : Int) := by omega
                  have hlt0 : ¬ (L : Int) < 0 := by omega
                  have hlt0' : decide ((L : Int) < 0) = false := decide_eq_false hlt0
                  obtain ⟨y, hy⟩ : ∃ y, rows[L] = y := ⟨_, rfl⟩
                  rw [hy] at hmo hfl8 hfi8 hcel r0 r1 r2 r3 r4
                  replace hfl8 := Lib.hid hfl8
                  clear hL hii hin8 hy r0 r1 r3 r4
                  by_cases hme : y.x.mod = x.2
                  · have hF2 := Lib.hid (hst.out (by rw [turnR_some hmo, hme]))
                    have e9 : ((y.x.mod : Int) == (x.2 : Int)) = true := by rw [hme]; simp
                    clear hme hst htu hg3' hmo
                    go_wp2_with fail
                    go_quiet (fail)
                    go_wp2_with fail
                    go_roundw
                    case rel => exact ⟨q + 1, _, _, by go_num, by omega, hF2, Lib.hid (hbd.out _)⟩
                    case measure => simp [intOf] <;> omega
                  · have hF2 := fun yy hy => htu.out (by rw [turnR_some hmo]; exact fun e => hme (by rw [← e])) yy hy
                    rw [turnR_some hmo] at hF2
                    have e9 : ((y.x.mod : Int) == (x.2 : Int)) = false := by rw [beq_eq_false_iff_ne]; omega
                    replace hF2 := Lib.hid hF2
                    clear hme hst htu hmo
                    go_wp2_with fail
                    go_quiet (fail)
                    have hz9 := hbd.out nq
                    clear hnb hbd s1 y4 r2 e9
                    generalize w8.drewN nq = w9 at hz9 ⊢
                    obtain ⟨b', o', cap'', hv, -, r0, r1, r2, r3, r4⟩ := hcel.out w9 hz9.bel
                    injection hv with q1 q2 q3
                    injection q1 with q1
                    injection q1 with q1 q4
                    subst q1 q3 q4
                    obtain ⟨hbB, -⟩ := hz9.box 3 rfl
                    have y4 : w9.cell? ⟨BB, 4, none⟩ = some (.slice (some ⟨b, o, none⟩) rows.length c) := box_cell hbB 4
                    obtain ⟨⟨uid, fl, md, hs, sz⟩, ya, yc⟩ := y
                    dsimp only [LtV.v] at hfl8 hfi8 r0 r1 r2 r3 r4 hF2
                    have hnb := hz9.newBox [.int .u64 uid, .slice ya fl.length yc, .int .u64 md, .string hs, .int .u64 sz].toArray 66
                    generalize hXB : w9.heap.size = XB at hnb
                    generalize hWd : (w9.alloc (.cells [.int .u64 uid, .slice ya fl.length yc, .int .u64 md, .string hs, .int .u64 sz].toArray 66)) = wd2 at hnb
                    replace hnb := Lib.hid hnb
                    clear hcel hz9 hbB
                    go_upto_region 27 with fail
                    clear hWd r0 r1 r2 r3 r4 hXB y4
                    obtain ⟨hbX, -⟩ := hnb.out.box 0 rfl
                    obtain ⟨hbV, -⟩ := hnb.out.box 5 rfl
                    have x2 : wd2.cell? ⟨VB, 2, none⟩ = some (.slice (some ⟨g, 0, none⟩) n2 c3) := box_cell hbV 2
                    have t2 : wd2.cell? ⟨XB, 2, none⟩ = some (.int .u64 md) := box_cell hbX 2
                    obtain ⟨hq3, hg3⟩ := hg3'.out
                    obtain ⟨g', cap3, hvr, -, -, hpc, hpf, hzp⟩ := hnb.out.putFieldC 2 rfl q hq3 1 (by decide) (.int .u64 md) (x.1, md) (by rw [hg3]; rfl)
                    injection hvr with u1 u2 u3
                    injection u1 with u1
                    injection u1 with u1
                    subst u1
                    have c1 : wd2.cell? ⟨g, q * 2 + 1, none⟩ = some (.int .u64 x.2) := by have := hpc 1 (by decide); rw [hg3] at this; exact this
                    have f1 : wd2.frozen? ⟨g, q * 2 + 1, none⟩ = false := hpf _
                    replace hzp : Hid (Zoo W (wd2.setCell ⟨g, q * 2 + 1, none⟩ (.int .u64 md)) (boxT XB [.int .u64 uid, .slice ya fl.length yc, .int .u64 md, .string hs, .int .u64 sz].toArray 66 :: syL nm val nx hi (some ⟨b, o, none⟩) rows.length c VB BB RB (.slice (some ⟨g, 0, none⟩) n2 c3) u10 (cur3.set q (x.1, md)) rps3)) := Lib.hid hzp
                    clear hbX hbV hpc hpf hnb hq3 hg3 hg3' u2 u3
                    go_upto_region 28 with fail
                    clear c1 f1 x2 t2
                    generalize (wd2.setCell ⟨g, q * 2 + 1, none⟩ (.int .u64 md)) = w10 at hzp ⊢
                    obtain ⟨hbX, -⟩ := hzp.out.box 0 rfl
                    have t1 : w10.cell? ⟨XB, 1, none⟩ = some (.slice ya fl.length yc) := box_cell hbX 1
                    have hcl := Lib.hid (cloneFl_any (FlIn.rd (hfi8.out w10 hzp.out.bel)) hfl8.out)
                    clear hbX
                    go_wp2_with fail
                    refine hcl.out.mono ?_
                    rintro e w11 ⟨v11, rfl, ho11, hb11, -⟩
                    obtain ⟨a11, c11, hv11⟩ := ho11.out.len
                    generalize fl.length = n11 at hv11 hzp
                    subst hv11
                    have hz11 := hzp.out.below hb11.out
                    have hz12 := hz11.newRow (R := vlT) ((Below.refl _ _).alloc (Nat.le_refl _) (.cells (vlCells ⟨6, 0, a11, n11, c11⟩).toArray 85)) (RT.Own.one vlT w11 ⟨6, 0, a11, n11, c11⟩ _ rfl) (fun g hg => by injection hg with hg; exact Nat.le_of_eq hg)
                    generalize hGB : w11.heap.size = GB at hz12
                    generalize hWe : (w11.alloc (.cells (vlCells ⟨6, 0, a11, n11, c11⟩).toArray 85)) = w12 at hz12
                    replace hWe : w11.alloc (.cells #[.int .i64 6, .int .u64 0, .slice a11 n11 c11, .string ⟨#[]⟩, .bool false, .int .u64 0] 85) = w12 := hWe
                    replace hz12 := Lib.hid hz12
                    clear hcl ho11 hb11 hz11 hzp t1
                    go_upto_if 161 with fail
                    try rw [hWe]
                    clear hWe hGB
                    go_cut [20] (fun v20 wx => ∃ (av : Option Addr) (nv cv : Nat), v20 = .slice av nv cv ∧ Hid (Zoo W wx (syL nm val nx hi (some ⟨b, o, none⟩) rows.length c VB BB RB (.slice (some ⟨g, 0, none⟩) n2 c3) u10 (cur3.set q (x.1, md)) rps3)))
                    case first =>
                      cases cond with
                      | false =>
                        go_wp2_with fail
                        go_meet
                        case rel => exact ⟨_, _, _, rfl, Lib.hid hz12.out.tail.tail⟩
                      | true =>
                        obtain ⟨hbX, -⟩ := hz12.out.box 1 rfl
                        have t2 : w12.cell? ⟨XB, 2, none⟩ = some (.int .u64 md) := box_cell hbX 2
                        have hza := Lib.hid (hz12.out.alloc (.cells (vlCells ⟨9, md, none, 0, 0⟩).toArray 85))
                        have hrd := Lib.hid (RT.Own.one vlT w12 ⟨9, md, none, 0, 0⟩ w12.heap.size rfl).rd
                        clear hbX hz12
                        go_wp2_with (at_builtin; refine RT.wpList_append vlT rfl (.tmp 162) (.tmp 166) rfl (.slice (some ⟨GB, 0, none⟩) 1 1) _ [⟨6, 0, a11, n11, c11⟩] [⟨9, md, none, 0, 0⟩] rfl rfl (hza.out.own 0 rfl) hrd.out (by simp) ?_)
                        intro v13 w13 ho13 hg13 hat13
                        have hz13 := Lib.hid (hza.out.appR 0 rfl ho13 hg13 (fun g hg => (hat13 g hg).imp_right (fun h => by simpa using h)))
                        obtain ⟨a13, c13, hv13⟩ := ho13.len
                        subst hv13
                        clear ho13 hg13 hat13 hza hrd t2
                        go_wp2_with fail
                        go_meet
                        case rel => exact ⟨_, _, _, rfl, Lib.hid hz13.out.tail.tail⟩
                    case rest =>
                    obtain ⟨av', nv', cv', rfl, hz14⟩ := hcut
                    generalize wc = w14 at *
                    have hF3 := Lib.hid (hF2.out ⟨14, q + 1, av', nv', cv'⟩ rfl)
                    have hza := Lib.hid (hz14.out.alloc (.cells (rpCells ⟨14, q + 1, av', nv', cv'⟩).toArray 61))
                    have hrd := Lib.hid (RT.Own.one rpT w14 ⟨14, q + 1, av', nv', cv'⟩ w14.heap.size rfl).rd
                    have hw2 : IntKind.i64.wrap ((q : Int) + 1) = (q : Int) + 1 := by rw [IntKind.wrap_i64]; omega
                    have hw3 : IntKind.u64.wrap ((q : Int) + 1) = (q : Int) + 1 := by rw [IntKind.wrap_u64]; omega
                    clear hz12 hz14 hF2
                    go_wp2_with (at_builtin; refine RT.wpList_append rpT rfl (.tmp 168) (.tmp 174) rfl u10 _ rps3 [⟨14, q + 1, av', nv', cv'⟩] rfl rfl (hza.out.own 0 rfl) hrd.out (by have := hrl.out; simp only [List.length_singleton]; omega) ?_)
                    intro v15 w15 ho15 hg15 hat15
                    have hz15 : Hid (Zoo W w15 (syL nm val nx hi (some ⟨b, o, none⟩) rows.length c VB BB RB (.slice (some ⟨g, 0, none⟩) n2 c3) v15 (cur3.set q (x.1, md)) (rps3 ++ [⟨14, q + 1, av', nv', cv'⟩]))) := Lib.hid (hza.out.appR 0 rfl ho15 hg15 (fun g hg => (hat15 g hg).imp_right (fun h => by simpa using h)))
                    clear ho15 hg15 hat15 hza hrd
                    go_wp2_with fail
                    go_roundw
                    case rel => exact ⟨q + 1, _, _, by go_num, by omega, hF3, hz15⟩
                    case measure => simp [intOf] <;> omega
              · obtain rfl : q = cn := by omega
                have hdone : Hid (cur3 = cur.map (turnR bb) ++ nw ∧ rps3.map Rp.say = T) := Lib.hid (by
                  have h1 := hF.out
                  have h2 := hcn.out
                  clear hF hz
                  rw [← h2] at h1
                  exact h1.done)
                have hsy : Hid (cur3 = syncL l bb expunge) := Lib.hid (by rw [hdone.out.1]; unfold syncL; rw [← hfin.out.1, hnwx.out])
                have hle := hF.out.lens
                have hrl : Hid (rps3.length ≤ 300000) := Lib.hid (by have := hTl.out; omega)
                have hty : Hid (rps3.map Rp.say = tellR l bb expunge) := Lib.hid (by rw [hdone.out.2, hTT.out])
                clear hF hdone hle
                obtain ⟨hbV, -⟩ := hz.out.box 4 rfl
                have x0 : wr.cell? ⟨VB, 0, none⟩ = some (.string nm) := box_cell hbV 0
                have x1 : wr.cell? ⟨VB, 1, none⟩ = some (.int .u64 val) := box_cell hbV 1
                have x2 : wr.cell? ⟨VB, 2, none⟩ = some (.slice a3 n2 c3) := box_cell hbV 2
                obtain ⟨hbR, -⟩ := hz.out.box 2 rfl
                have z0 : wr.cell? ⟨RB, 0, none⟩ = some (.string ⟨#[]⟩) := box_cell hbR 0
                have z1 : wr.cell? ⟨RB, 1, none⟩ = some (.int .u64 0) := box_cell hbR 1
                have z2 : wr.cell? ⟨RB, 2, none⟩ = some (.slice none 0 0) := box_cell hbR 2
                have f0 := box_free hbR 0
                have f1 := box_free hbR 1
                have f2 := box_free hbR 2
                have hzF := Lib.hid (((hz.out.setBox (C := [_, _, _]) 2 rfl 0 (.string nm)).setBox (C := [_, _, _]) 2 rfl 1 (.int .u64 val)).setBox (C := [_, _, _]) 2 rfl 2 (.slice a3 n2 c3))
                obtain ⟨hbF, -⟩ := hzF.out.box 2 rfl
                replace hbF := Lib.hid hbF
                clear hbV hbR hz
                go_wp2_with fail
                refine bodyPost_ret (results_cell_tmp_row rfl _ _ _ [.string nm, .int .u64 val, .slice a3 n2 c3] rfl hbF.out Try.isAgg25 Try.sizeOf25) rfl ?_
                rw [hbb.out] at hsy hty
                refine ⟨.slice a3 n2 c3, _, rps3, rfl, Lib.hid ?_, hty⟩
                rw [← hsy.out]
                exact hzF.out.sub (List.Sublist.cons_cons _ (List.Sublist.cons_cons _ (List.nil_sublist _)))
      | true =>
        have hexp : expunge = true := by cases expunge with | true => rfl | false => rw [Bool.and_false] at hT; cases hT
        have hi0 : 0 ≤ i := by rw [hexp, Bool.and_true] at hT; exact of_decide_eq_true hT
        obtain ⟨k', rfl⟩ : ∃ k', k = k' + 1 := ⟨k - 1, by have := hik.out; omega⟩
        obtain rfl : i = (k' : Int) := by have := hik.out; omega
        have hkl' : k' < l.length := by have := hkl.out; omega
        clear hT hik hkl hex
        subst hexp
        obtain ⟨hc, hcg⟩ := hI.out.at_ hkl'
        obtain ⟨hlk, hlc, hlr⟩ := hI.out.lens (by omega)
        obtain ⟨g, cap, rest, hvr, hcap, hgl, hpr, -⟩ := (hz.out.ownC 1 rfl).row (by omega)
        subst hvr
        have hgx : Hid (∀ w', Below wr.heap.size wr w' → w'.cell? ⟨g, k' * 2, none⟩ = some (.int .u64 (l[k'].1 : Nat))) := Lib.hid (fun w' hb => (hb.cell (p := ⟨g, k' * 2, none⟩) hgl).trans (by have := hpr.cell k' 0 hc (by decide); rw [hcg] at this; exact this))
        have hyes := fun hs => hI.out.yes hkl' hs
        have hno := fun hs y hy => hI.out.no hkl' hs y hy
        obtain ⟨x, hx⟩ : ∃ x, l[k'] = x := ⟨_, rfl⟩
        rw [hx] at hgx hyes hno
        have hcall : Hid (∀ w', Below wr.heap.size wr w' → Calls Try.prog 40 #[.agg #[.string nm, .int .u64 val, .int .u64 nx, .int .u64 hi, .slice a rows.length c], .int .u64 x.1] w' fun e w2 => e = .returned (.int .i64 ((lettI rows x.1 : Int) - 1)) ∧ Hid (Below w'.heap.size w' w2)) := Lib.hid (fun w' hb => letter_any ⟨nm, val, nx, hi, rows, a, c⟩ x.1 w' (by dsimp only; omega) (hb0.out w' (hz.out.bel.trans (hb.mono hz.out.bel.size))))
        have hmod : Hid ((lettI rows x.1 = 0 → ¬ (modAt bb x.1).isSome = true) ∧ (lettI rows x.1 ≠ 0 → (modAt bb x.1).isSome = true)) := Lib.hid ⟨fun h => by rw [hbb.out, lettI_zero h]; simp, fun h => by
          cases hL : lettI rows x.1 with
          | zero => exact absurd hL h
          | succ n => obtain ⟨_, _, h3⟩ := lettI_succ hL; rw [hbb.out, h3]; rfl⟩
        have hi1 : (k' : Int) < (cur.length : Int) := by omega
        replace hyes := Lib.hid hyes
        replace hno := Lib.hid hno
        have hlc' := Lib.hid hlc
        have hlr' := Lib.hid hlr
        have hc' := Lib.hid hc
        have hcap' := Lib.hid hcap
        have hd := Below.refl wr.heap.size wr
        clear hI hx hcg hpr hlk hlc hlr hgl hc hcap
        generalize hcn : cur.length = cn at hi1
        replace hcn := Lib.hid hcn
        go_upto_region 8 with fail
        have hzd := hz.out.drew
        replace hd := hd.drew
        obtain ⟨hbV, -⟩ := hzd.box 4 rfl
        obtain ⟨hbB, -⟩ := hzd.box 3 rfl
        have y0 : wr.drew.cell? ⟨BB, 0, none⟩ = some (.string nm) := box_cell hbB 0
        have y1 : wr.drew.cell? ⟨BB, 1, none⟩ = some (.int .u64 val) := box_cell hbB 1
        have y2 : wr.drew.cell? ⟨BB, 2, none⟩ = some (.int .u64 nx) := box_cell hbB 2
        have y3 : wr.drew.cell? ⟨BB, 3, none⟩ = some (.int .u64 hi) := box_cell hbB 3
        have y4 : wr.drew.cell? ⟨BB, 4, none⟩ = some (.slice a rows.length c) := box_cell hbB 4
        have x2 : wr.drew.cell? ⟨VB, 2, none⟩ = some (.slice (some ⟨g, 0, none⟩) cn cap) := by rw [← hcn.out]; exact box_cell hbV 2
        have g0 := hgx.out _ hd
        have hcall2 := Lib.hid (hcall.out _ hd)
        clear hbV hbB
        refine wp_region_hd (fun w' => (w'.cell? ⟨BB, 0, none⟩ = some (.string nm) ∧ w'.cell? ⟨BB, 1, none⟩ = some (.int .u64 val) ∧ w'.cell? ⟨BB, 2, none⟩ = some (.int .u64 nx) ∧ w'.cell? ⟨BB, 3, none⟩ = some (.int .u64 hi) ∧ w'.cell? ⟨BB, 4, none⟩ = some (.slice a rows.length c)) ∧ w'.cell? ⟨VB, 2, none⟩ = some (.slice (some ⟨g, 0, none⟩) cn cap) ∧ w'.cell? ⟨g, k' * 2, none⟩ = some (.int .u64 x.1)) 8 1 (by kernel_rfl) rfl ⟨by kernel_rfl, by kernel_rfl, by kernel_rfl, by decide⟩ ⟨⟨y0, y1, y2, y3, y4⟩, x2, g0⟩ (fun hok hS0 => ?_)
        generalize wr.drew = Wd at *
        refine Hd.take (i := 0) (v := ?tv17) hok rfl (by kernel_rfl) (fun _ _ _ h => h) (Or.inl ⟨by rfl, ?ty17⟩) (by assumption) ?tr17
        case ty17 => (intro w hSw; (try dsimp only at hSw); go_simp; (try with_reducible rfl))
        try simp only [List.getElem_toArray, List.getElem_cons_succ, List.getElem_cons_zero, Act.put, List.setIfInBounds_toArray, List.set_cons_zero, List.set_cons_succ]
        refine Hd.take (i := 1) (v := ?tv18) hok rfl (by kernel_rfl) (fun _ _ _ h => h) (Or.inl ⟨by rfl, ?ty18⟩) (by assumption) ?tr18
        case ty18 => (intro w hSw; (try dsimp only at hSw); go_simp; (try with_reducible rfl))
        try simp only [List.getElem_toArray, List.getElem_cons_succ, List.getElem_cons_zero, Act.put, List.setIfInBounds_toArray, List.set_cons_zero, List.set_cons_succ]
        refine Hd.take (i := 2) (v := ?tv19) hok rfl (by kernel_rfl) (fun _ _ _ h => h) (Or.inl ⟨by rfl, ?ty19⟩) (by assumption) ?tr19
        case ty19 => (intro w hSw; (try dsimp only at hSw); go_simp; (try with_reducible rfl))
        try simp only [List.getElem_toArray, List.getElem_cons_succ, List.getElem_cons_zero, Act.put, List.setIfInBounds_toArray, List.set_cons_zero, List.set_cons_succ]
        refine Hd.take (i := 3) (v := ?tv20) hok rfl (by kernel_rfl) (fun _ _ _ h => h) (Or.inl ⟨by rfl, ?ty20⟩) (by assumption) ?tr20
        case ty20 => (intro w hSw; (try dsimp only at hSw); go_simp; (try with_reducible rfl))
        try simp only [List.getElem_toArray, List.getElem_cons_succ, List.getElem_cons_zero, Act.put, List.setIfInBounds_toArray, List.set_cons_zero, List.set_cons_succ]
        refine Hd.take (i := 4) (v := ?tv21) hok rfl (by kernel_rfl) (fun _ _ _ h => h) (Or.inl ⟨by rfl, ?ty21⟩) (by assumption) ?tr21
        case ty21 => (intro w hSw; (try dsimp only at hSw); go_simp; (try with_reducible rfl))
        try simp only [List.getElem_toArray, List.getElem_cons_succ, List.getElem_cons_zero, Act.put, List.setIfInBounds_toArray, List.set_cons_zero, List.set_cons_succ]
        refine Hd.take (i := 5) (v := ?tv22) hok rfl (by kernel_rfl) (fun _ _ _ h => h) (Or.inl ⟨by rfl, ?ty22⟩) (by assumption) ?tr22
        case ty22 => (intro w hSw; (try dsimp only at hSw); go_simp; (try with_reducible rfl))
        try simp only [List.getElem_toArray, List.getElem_cons_succ, List.getElem_cons_zero, Act.put, List.setIfInBounds_toArray, List.set_cons_zero, List.set_cons_succ]
        refine Hd.take (i := 6) (v := ?tv23) hok rfl (by kernel_rfl) (fun _ _ _ h => h) (Or.inl ⟨by rfl, ?ty23⟩) (by assumption) ?tr23
        case ty23 => (intro w hSw; (try dsimp only at hSw); go_simp; (try with_reducible rfl))
        try simp only [List.getElem_toArray, List.getElem_cons_succ, List.getElem_cons_zero, Act.put, List.setIfInBounds_toArray, List.set_cons_zero, List.set_cons_succ]
        refine Hd.one (i := 7) rfl (by kernel_rfl) (fun K hK => ?_)
        go_simp
        refine hcall2.out.mono ?_
        rintro e w5 ⟨rfl, hb5⟩
        dsimp only
        have hz5 := hzd.below hb5.out
        have hd5 := hd.trans (hb5.out.mono hd.size)
        obtain ⟨hbV, -⟩ := hz5.box 4 rfl
        obtain ⟨hbB, -⟩ := hz5.box 3 rfl
        have x2' : w5.cell? ⟨VB, 2, none⟩ = some (.slice (some ⟨g, 0, none⟩) cn cap) := by rw [← hcn.out]; exact box_cell hbV 2
        refine hK _ _ ⟨⟨box_cell hbB 0, box_cell hbB 1, box_cell hbB 2, box_cell hbB 3, box_cell hbB 4⟩, x2', hgx.out _ hd5⟩ ?_
        clear hK K
        try simp only [List.getElem_toArray, List.getElem_cons_succ, List.getElem_cons_zero, Act.put, List.setIfInBounds_toArray, List.set_cons_zero, List.set_cons_succ]
        refine Hd.done (by kernel_rfl) ?_
        simp only [List.drop_succ_cons, List.drop_zero]
        replace hz5 := Lib.hid hz5
        clear hok hS0 y0 y1 y2 y3 y4 x2 g0 hcall hcall2 hzd hd hb5 hbV hbB hd5 hz hgx
        have hll := lettI_le rows x.1
        generalize lettI rows x.1 = L at hmod hll ⊢
        cases L with
        | succ L =>
          have hI2 := Lib.hid (hyes.out (hmod.out.2 (by omega)))
          have e1 : decide (((L + 1 : Nat) : Int) - 1 < 0) = false := decide_eq_false (by omega)
          have hw1 : IntKind.i64.wrap ((k' : Int) - 1) = (k' : Int) - 1 := by rw [IntKind.wrap_i64]; omega
          clear hmod hll hyes hno x2' hi1
          go_wp2_with fail
          go_roundw
          case rel => exact ⟨_, k', _, _, _, rfl, Lib.hid rfl, Lib.hid (Nat.le_of_lt hkl'), Lib.hid (fun h => by cases h), hI2, hz5⟩
          case measure => simp [intOf] <;> omega
        | zero =>
          have hI2 := Lib.hid (hno.out (hmod.out.1 rfl) ⟨9, k' + 1, none, 0, 0⟩ rfl)
          have e1 : decide (((0 : Nat) : Int) - 1 < 0) = true := by decide
          have hw1 : IntKind.i64.wrap ((k' : Int) - 1) = (k' : Int) - 1 := by rw [IntKind.wrap_i64]; omega
          have hw2 : IntKind.i64.wrap ((k' : Int) + 1) = (k' : Int) + 1 := by rw [IntKind.wrap_i64]; omega
          have hw3 : IntKind.u64.wrap ((k' : Int) + 1) = (k' : Int) + 1 := by rw [IntKind.wrap_u64]; omega
          clear hmod hll hyes hno x2'
          have hza := Lib.hid (hz5.out.alloc (.cells (rpCells ⟨9, k' + 1, none, 0, 0⟩).toArray 61))
          have hrd := Lib.hid (RT.Own.one rpT w5 ⟨9, k' + 1, none, 0, 0⟩ w5.heap.size rfl).rd
          go_wp2_with (at_builtin; refine RT.wpList_append rpT rfl (.tmp 58) (.tmp 63) rfl u10 _ rps [⟨9, k' + 1, none, 0, 0⟩] rfl rfl (hza.out.own 0 rfl) hrd.out (by have := hlr'.out; simp only [List.length_singleton]; omega) ?_)
          intro v6 w6 ho6 hg6 hat6
          have hz6 : Hid (Zoo W w6 (syL nm val nx hi a rows.length c VB BB RB (.slice (some ⟨g, 0, none⟩) cur.length cap) v6 cur (rps ++ [⟨9, k' + 1, none, 0, 0⟩]))) := Lib.hid (hza.out.appR 0 rfl ho6 hg6 (fun g hg => (hat6 g hg).imp_right (fun h => by simpa using h)))
          clear ho6 hg6 hat6 hza hrd hz5
          go_wp2_with fail
          have hzd := hz6.out.drew
          obtain ⟨hbV, -⟩ := hzd.box 4 rfl
          have x2 : w6.drew.cell? ⟨VB, 2, none⟩ = some (.slice (some ⟨g, 0, none⟩) cn cap) := by rw [← hcn.out]; exact box_cell hbV 2
          have f2 : w6.drew.frozen? ⟨VB, 2, none⟩ = false := box_free hbV 2
          have hs1 : (k' : Int) ≤ (cap : Int) := by have := hcap'.out; have := hcn.out; omega
          have hs2 : (k' : Int) + 1 ≤ (cn : Int) := by omega
          have hs3 : (0 : Int) ≤ (k' : Int) + 1 := by omega
          have hs4 : (cn : Int) ≤ (cap : Int) := by have := hcap'.out; have := hcn.out; omega
          refine wp_region_hd (fun w' => w'.cell? ⟨VB, 2, none⟩ = some (.slice (some ⟨g, 0, none⟩) cn cap)) 11 2 (by kernel_rfl) rfl ⟨by kernel_rfl, by kernel_rfl, by kernel_rfl, by decide⟩ x2 (fun hok hS0 => ?_)
          generalize w6.drew = Wd6 at *
          refine Hd.take (i := 0) (v := ?tv24) hok rfl (by kernel_rfl) (fun _ _ _ h => h) (Or.inl ⟨by rfl, ?ty24⟩) (by assumption) ?tr24
          case ty24 => (intro w hSw; (try dsimp only at hSw); go_simp; (try with_reducible rfl))
          try simp only [List.getElem_toArray, List.getElem_cons_succ, List.getElem_cons_zero, Act.put, List.setIfInBounds_toArray, List.set_cons_zero, List.set_cons_succ]
          refine Hd.take (i := 1) (v := ?tv25) hok rfl (by kernel_rfl) (fun _ _ _ h => h) (Or.inl ⟨by rfl, ?ty25⟩) (by assumption) ?tr25
          case ty25 => (intro w hSw; (try dsimp only at hSw); go_simp; (try with_reducible rfl))
          try simp only [List.getElem_toArray, List.getElem_cons_succ, List.getElem_cons_zero, Act.put, List.setIfInBounds_toArray, List.set_cons_zero, List.set_cons_succ]
          refine Hd.take (i := 2) (v := ?tv26) hok rfl (by kernel_rfl) (fun _ _ _ h => h) (Or.inl ⟨by rfl, ?ty26⟩) (by assumption) ?tr26
          case ty26 => (intro w hSw; (try dsimp only at hSw); go_simp; (try with_reducible rfl))
          try simp only [List.getElem_toArray, List.getElem_cons_succ, List.getElem_cons_zero, Act.put, List.setIfInBounds_toArray, List.set_cons_zero, List.set_cons_succ]
          refine Hd.take (i := 3) (v := ?tv27) hok rfl (by kernel_rfl) (fun _ _ _ h => h) (Or.inl ⟨by rfl, ?ty27⟩) (by assumption) ?tr27
          case ty27 => (intro w hSw; (try dsimp only at hSw); go_simp; (try with_reducible rfl))
          try simp only [List.getElem_toArray, List.getElem_cons_succ, List.getElem_cons_zero, Act.put, List.setIfInBounds_toArray, List.set_cons_zero, List.set_cons_succ]
          refine Hd.take (i := 4) (v := ?tv28) hok rfl (by kernel_rfl) (fun _ _ _ h => h) (Or.inl ⟨by rfl, ?ty28⟩) (by assumption) ?tr28
          case ty28 => (intro w hSw; (try dsimp only at hSw); go_simp; (try with_reducible rfl))
          try simp only [List.getElem_toArray, List.getElem_cons_succ, List.getElem_cons_zero, Act.put, List.setIfInBounds_toArray, List.set_cons_zero, List.set_cons_succ]
          refine Hd.take (i := 5) (v := ?tv29) hok rfl (by kernel_rfl) (fun _ _ _ h => h) (Or.inl ⟨by rfl, ?ty29⟩) (by assumption) ?tr29
          case ty29 => (intro w hSw; (try dsimp only at hSw); go_simp; (try with_reducible rfl))
          try simp only [List.getElem_toArray, List.getElem_cons_succ, List.getElem_cons_zero, Act.put, List.setIfInBounds_toArray, List.set_cons_zero, List.set_cons_succ]
          refine Hd.take (i := 6) (v := ?tv30) hok rfl (by kernel_rfl) (fun _ _ _ h => h) (Or.inl ⟨by rfl, ?ty30⟩) (by assumption) ?tr30
          case ty30 => (intro w hSw; (try dsimp only at hSw); go_simp; (try with_reducible rfl))
          try simp only [List.getElem_toArray, List.getElem_cons_succ, List.getElem_cons_zero, Act.put, List.setIfInBounds_toArray, List.set_cons_zero, List.set_cons_succ]
          refine Hd.take (i := 7) (v := ?tv31) hok rfl (by kernel_rfl) (fun _ _ _ h => h) (Or.inl ⟨by rfl, ?ty31⟩) (by assumption) ?tr31
          case ty31 => (intro w hSw; (try dsimp only at hSw); go_simp; (try with_reducible rfl))
          try simp only [List.getElem_toArray, List.getElem_cons_succ, List.getElem_cons_zero, Act.put, List.setIfInBounds_toArray, List.set_cons_zero, List.set_cons_succ]
          refine Hd.take (i := 8) (v := ?tv32) hok rfl (by kernel_rfl) (fun _ _ _ h => h) (Or.inl ⟨by rfl, ?ty32⟩) (by assumption) ?tr32
          case ty32 => (intro w hSw; (try dsimp only at hSw); go_simp; (try with_reducible rfl))
          try simp only [List.getElem_toArray, List.getElem_cons_succ, List.getElem_cons_zero, Act.put, List.setIfInBounds_toArray, List.set_cons_zero, List.set_cons_succ]
          refine Hd.take (i := 9) (v := ?tv33) hok rfl (by kernel_rfl) (fun _ _ _ h => h) (Or.inl ⟨by rfl, ?ty33⟩) (by assumption) ?tr33
          case ty33 => (intro w hSw; (try dsimp only at hSw); go_simp; (try with_reducible rfl))
          try simp only [List.getElem_toArray, List.getElem_cons_succ, List.getElem_cons_zero, Act.put, List.setIfInBounds_toArray, List.set_cons_zero, List.set_cons_succ]
          have hoc := hzd.ownC 1 rfl
          have hcu := Lib.hid (hoc.cut (i := k') (by have := hc'.out; omega))
          have hri := Lib.hid (hoc.rdIf (k' + 1) hc'.out hcap'.out)
          rw [hcn.out] at hri
          have hls : Hid ((cur.take k').length + (cur.drop (k' + 1)).length ≤ 1000000) := Lib.hid (by have := hlc'.out; rw [List.length_take, List.length_drop]; omega)
          replace hzd := Lib.hid hzd
          clear hoc hS0 f2 x2 hbV hz6
          refine Hd.one (i := 10) rfl (by kernel_rfl) (fun K hK => ?_)
          refine RT.step_appendC rowT rfl (.tmp 69) (.tmp 74) rfl _ _ (cur.take k') (cur.drop (k' + 1)) rfl rfl hcu.out hri.out hls.out ?_
          intro v7 w7 ho7 hg7 hat7
          have hz7 : Hid (Zoo W w7 (syL nm val nx hi a rows.length c VB BB RB (.slice (some ⟨g, 0, none⟩) cur.length cap) v6 cur (rps ++ [⟨9, k' + 1, none, 0, 0⟩]) |>.set 1 (rowT.rowC v7 (cur.take k' ++ cur.drop (k' + 1))))) := Lib.hid (hzd.out.appC 1 rfl ho7 hg7 hat7)
          obtain ⟨hbV, -⟩ := hz7.out.box 4 rfl
          have x2 : w7.cell? ⟨VB, 2, none⟩ = some (.slice (some ⟨g, 0, none⟩) cn cap) := by rw [← hcn.out]; exact box_cell hbV 2
          have f2 : w7.frozen? ⟨VB, 2, none⟩ = false := box_free hbV 2
          refine hK _ _ x2 ?_
          clear hK K
          try simp only [List.getElem_toArray, List.getElem_cons_succ, List.getElem_cons_zero, Act.put, List.setIfInBounds_toArray, List.set_cons_zero, List.set_cons_succ]
          refine Hd.done (by kernel_rfl) ?_
          simp only [List.drop_succ_cons, List.drop_zero]
          obtain ⟨a7, c7, hv7⟩ := ho7.len
          generalize (cur.take k' ++ cur.drop (k' + 1)).length = n7 at hv7
          have hz8 : Hid (Zoo W (w7.setCell ⟨VB, 2, none⟩ v7) (syL nm val nx hi a rows.length c VB BB RB v7 v6 (cur.take k' ++ cur.drop (k' + 1)) (rps ++ [⟨9, k' + 1, none, 0, 0⟩]))) := Lib.hid (hz7.out.setBox (C := [_, _, _]) 4 rfl 2 v7)
          subst hv7
          clear hbV ho7 hg7 hat7 hz7 hzd hcu hri hls hok hs1 hs2 hs3 hs4 hw2 hw3 hi1
          go_wp2_with fail
          go_roundw
          case rel => exact ⟨_, k', _, _, _, rfl, Lib.hid rfl, Lib.hid (Nat.le_of_lt hkl'), Lib.hid (fun h => by cases h), hI2, hz8⟩
          case measure => simp [intOf] <;> omega
end Go.Proofs.Ytcnebfmlelcliaa
