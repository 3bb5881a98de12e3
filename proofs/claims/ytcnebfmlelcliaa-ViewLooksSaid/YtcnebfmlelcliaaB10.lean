/- The document's Meant of views: walked. The document's Same of ranges; SeqsetTurned, SeqsetHolds: walked, over what 'alive' answers. SeqsetTurned, SeqsetHolds: walked, over what 'alive' answers. maps.Keys as an iterator over a map's keys, numbers: walked. slices.Collect, slices.Sorted of a map's keys: walked, over what slices.Sort does. A row of numbers that is written in place; cmp.Less; insertion sort: walked. cmp.Less; insertion sort: walked. -/
import Derived.Test.YtcnebfmlelcliaaB09
import Derived.Test.YtcnebfmlelcliaaB08
import Derived.Deep.RegionWith
import Derived.Deep.RegionLaw
import Derived.RangeFuncNested
import Derived.RangeFuncBound
import Derived.RangeFuncCalls
import Derived.RangeFuncLeaves
import Derived.RangeFuncFrom
import Derived.Shelf.Abstract
import Derived.Shelf.RegionOpen
import Derived.WalkKit
import Derived.OwnWalkIn
import Derived.TacticsInMore
import Derived.LoopNIn
import Derived.LoopIn
import Derived.Sort.MapsRangeIn
import Derived.Maps.OwnSet
import Derived.Maps.OwnOps
import Derived.Maps.AppendAt
import Derived.OpenShut
import Derived.BigRegion
namespace Go.Proofs.Ytcnebfmlelcliaa
set_option linter.unusedSimpArgs false
open Go.RowKit
attribute [local go_sem ↓] Go.wp_at_zero Go.wp_at_succ

def hitB (rs l : List (Nat × Nat)) (byUid : Bool) (q u : Nat) : Bool := if byUid then hasL rs (mostL l) u else hasL rs l.length (q + 1)
theorem meantN_step {rs l : List (Nat × Nat)} {byUid : Bool} {k : Nat} (hk : k < l.length) : meantN rs l byUid (k + 1) = if hitB rs l byUid k l[k].1 then meantN rs l byUid k ++ [l[k].1] else meantN rs l byUid k := by
  cases h : hitB rs l byUid k l[k].1 with
  | true => exact meantN_yes hk h
  | false => exact meantN_no hk h
set_option maxRecDepth 100000 in
set_option maxHeartbeats 16000000 in
theorem refMeantV_any (s : ByteArray) (val : Nat) (rs l : List (Nat × Nat)) (v vl : Value) (byUid : Bool) (W : World) (hl : l.length ≤ 100000) (hl2 : rs.length ≤ 100000) (hk : RangesIn W W.heap.size v l) (hr : RangesIn W W.heap.size vl rs) :
    Calls Try.prog 15 #[.agg #[.string s, .int .u64 val, v], vl, .bool byUid] W (VMeantRet rs l byUid W) := by
  have hk0 := Lib.hid hk
  have hr0 := Lib.hid hr
  have hmo := Lib.hid (fun W' (hW : Below W.heap.size W W') => most_any s val l v W' (by omega) (hk.on hW))
  have hhas := Lib.hid (fun W' m n (hW : Below W.heap.size W W') => refHas_any rs vl m n W' (by omega) (hr.on hW))
  obtain ⟨av, cv, hv, -⟩ := hk
  subst hv
  obtain ⟨ar, cr, hv, -⟩ := hr
  subst hv
  have hz1 := (Zoo.nil W).newBox [.string s, .int .u64 val, .slice av l.length cv].toArray 25
  generalize hVB : W.heap.size = VB at hz1
  generalize hWa : (W.alloc (.cells [.string s, .int .u64 val, .slice av l.length cv].toArray 25)) = Wa at hz1
  have hVl : VB < Wa.heap.size := by rw [← hWa, ← hVB]; simp
  have hbW := hz1.bel
  have hV : Hid (∀ w', Below Wa.heap.size Wa w' → w'.cell? ⟨VB, 0, none⟩ = some (.string s) ∧ w'.cell? ⟨VB, 1, none⟩ = some (.int .u64 val) ∧ w'.cell? ⟨VB, 2, none⟩ = some (.slice av l.length cv)) := Lib.hid (fun w' hB => by
    have := heap_below (hz1.box 0 rfl).1 hB
    exact ⟨box_cell this 0, box_cell this 1, box_cell this 2⟩)
  have hw : IntKind.u64.wrap (l.length : Int) = (l.length : Int) := by rw [IntKind.wrap_u64]; omega
  obtain ⟨x0, x1, x2⟩ := hV.out Wa (Below.refl _ _)
  replace hbW := Lib.hid hbW
  replace hVl := Lib.hid hVl
  clear hz1
  go_enter Try.func15, Try.ntmps15
  go_upto_region 1 with fail
  clear hWa
  go_wp2_with fail
  go_loopw [9, 10, 11] (fun v9 _ _ wr => ∃ q : Nat, v9 = .int .i64 q ∧ q ≤ rs.length ∧ Hid (byUid = false → (rs.take q).any (outOne l.length) = false) ∧ Hid (Below Wa.heap.size Wa wr)) (fun v9 _ _ _ => rs.length - (intOf v9).toNat)
  case atStart => exact ⟨0, rfl, Nat.zero_le _, Lib.hid (fun _ => rfl), Lib.hid (Below.refl _ _)⟩
  case round =>
    clear x0 x1 x2 hw
    obtain ⟨q, rfl, hq, hno, hb⟩ := hrel
    go_upto_region 3 with fail
    go_cut [26] (fun v26 wx => v26 = .bool (decide ((q : Int) < (rs.length : Int)) && !byUid) ∧ wr = wx)
    case first =>
      cases hi0 : decide ((q : Int) < (rs.length : Int)) with
      | false =>
        have hi1 : ¬ (q : Int) < (rs.length : Int) := of_decide_eq_false hi0
        go_wp2_with fail
        go_meet
        case rel => exact ⟨by rw [hi0, Bool.false_and], rfl⟩
      | true =>
        have hi1 : (q : Int) < (rs.length : Int) := of_decide_eq_true hi0
        cases byUid with
        | true =>
          go_wp2_with fail
          go_meet
          case rel => exact ⟨by rw [hi0]; rfl, rfl⟩
        | false =>
          go_wp2_with fail
          go_meet
          case rel => exact ⟨by rw [hi0]; rfl, rfl⟩
    case rest =>
      obtain ⟨rfl, rfl⟩ := hcut
      cases hT : (decide ((q : Int) < (rs.length : Int)) && !byUid) with
      | true =>
        have hby : byUid = false := by cases byUid with | false => rfl | true => rw [Bool.not_true, Bool.and_false] at hT; cases hT
        subst hby
        have hlt : q < rs.length := by rw [Bool.not_false, Bool.and_true] at hT; have := of_decide_eq_true hT; omega
        have hno2 : (rs.take q).any (outOne l.length) = false := hno.out rfl
        have hstep : (rs.take (q + 1)).any (outOne l.length) = outOne l.length rs[q] := by rw [List.take_succ_eq_append_getElem hlt, List.any_append, hno2]; simp
        have hyes : outOne l.length rs[q] = true → rs.any (outOne l.length) = true := fun h => List.any_eq_true.2 ⟨_, List.getElem_mem hlt, h⟩
        obtain ⟨b, o, cap', hv, hbB, hcells⟩ := rowAt (hr0.out.later (hbW.out.trans (hb.out.mono hbW.out.size))) hlt
        injection hv with q1 q2 q3
        subst q1 q3
        obtain ⟨c0, c1⟩ := hcells q hlt
        obtain ⟨⟨f, t⟩, hx⟩ : ∃ x, rs[q] = x := ⟨_, rfl⟩
        rw [hx] at c0 c1 hstep hyes
        dsimp only at c0 c1
        have hi0 : (0 : Int) ≤ (q : Int) := by omega
        have hi1 : (q : Int) < (rs.length : Int) := by omega
        replace hstep := Lib.hid hstep
        replace hyes := Lib.hid hyes
        clear hT hno hno2 hcells hx hbB
        go_upto_region 5 with fail
        go_quiet (fail)
        have hbq := Lib.hid (below_drewN hb.out nq)
        clear c0 c1 hb
        generalize wr.drewN nq = w2 at hbq ⊢
        obtain ⟨A, hA⟩ : ∃ A, realI l.length f = A := ⟨_, rfl⟩
        obtain ⟨B, hB⟩ : ∃ B, realI l.length t = B := ⟨_, rfl⟩
        have hv : Hid (outOne l.length (f, t) = (decide (min A B < 1) || decide ((l.length : Int) < max A B))) := Lib.hid (by rw [← hA, ← hB]; rfl)
        replace hA := Lib.hid hA
        replace hB := Lib.hid hB
        go_upto_if 40 with fail
        go_cut [10] (fun v10 wx => v10 = .int .u64 A ∧ w2 = wx)
        case first =>
          by_cases e : f = 0
          · have e1 : ((f : Int) == 0) = true := by rw [e]; rfl
            have hA2 : Hid (A = (l.length : Int)) := Lib.hid (by rw [← hA.out]; unfold realI; rw [if_pos (by omega)])
            clear e
            go_wp2_with fail
            go_meet
            case rel => exact ⟨by rw [hA2.out], rfl⟩
          · have e1 : ((f : Int) == 0) = false := by rw [beq_eq_false_iff_ne]; omega
            have hA2 : Hid (A = (f : Int)) := Lib.hid (by rw [← hA.out]; unfold realI; rw [if_neg (by omega)])
            clear e
            go_wp2_with fail
            go_meet
            case rel => exact ⟨by rw [hA2.out], rfl⟩
        case rest =>
        obtain ⟨rfl, rfl⟩ := hcut
        go_upto_if 43 with fail
        go_cut [11] (fun v11 wx => v11 = .int .u64 B ∧ w2 = wx)
        case first =>
          by_cases e : t = 0
          · have e1 : ((t : Int) == 0) = true := by rw [e]; rfl
            have hA2 : Hid (B = (l.length : Int)) := Lib.hid (by rw [← hB.out]; unfold realI; rw [if_pos (by omega)])
            clear e
            go_wp2_with fail
            go_meet
            case rel => exact ⟨by rw [hA2.out], rfl⟩
          · have e1 : ((t : Int) == 0) = false := by rw [beq_eq_false_iff_ne]; omega
            have hA2 : Hid (B = (t : Int)) := Lib.hid (by rw [← hB.out]; unfold realI; rw [if_neg (by omega)])
            clear e
            go_wp2_with fail
            go_meet
            case rel => exact ⟨by rw [hA2.out], rfl⟩
        case rest =>
        obtain ⟨rfl, rfl⟩ := hcut
        go_upto_region 10 with fail
        go_cut [60] (fun v60 wx => v60 = .bool (decide (A < 1) || (decide ((l.length : Int) < A) || (decide (B < 1) || decide ((l.length : Int) < B)))) ∧ w2 = wx)
        case first =>
          cases g1 : decide (A < 1) with
          | true =>
            have g1' := of_decide_eq_true g1
            go_wp2_with fail
            go_meet
            case rel => exact ⟨by rw [g1, Bool.true_or], rfl⟩
          | false =>
            have g1' := of_decide_eq_false g1
            cases g2 : decide ((l.length : Int) < A) with
            | true =>
              have g2' := of_decide_eq_true g2
              go_wp2_with fail
              go_meet
              case rel => exact ⟨by rw [g1, g2, Bool.true_or, Bool.false_or], rfl⟩
            | false =>
              have g2' := of_decide_eq_false g2
              cases g3 : decide (B < 1) with
              | true =>
                have g3' := of_decide_eq_true g3
                go_wp2_with fail
                go_meet
                case rel => exact ⟨by rw [g1, g2, g3, Bool.true_or, Bool.false_or, Bool.false_or], rfl⟩
              | false =>
                have g3' := of_decide_eq_false g3
                cases g4 : decide ((l.length : Int) < B) with
                | true =>
                  have g4' := of_decide_eq_true g4
                  go_wp2_with fail
                  go_meet
                  case rel => exact ⟨by rw [g1, g2, g3, g4]; rfl, rfl⟩
                | false =>
                  have g4' := of_decide_eq_false g4
                  go_wp2_with fail
                  go_meet
                  case rel => exact ⟨by rw [g1, g2, g3, g4]; rfl, rfl⟩
        case rest =>
        obtain ⟨rfl, rfl⟩ := hcut
        have hsame : (decide (A < 1) || (decide ((l.length : Int) < A) || (decide (B < 1) || decide ((l.length : Int) < B)))) = outOne l.length (f, t) := by
          rw [hv.out, Bool.eq_iff_iff]
          simp only [Bool.or_eq_true, decide_eq_true_eq]
          omega
        rw [hsame]
        clear hsame hv hA hB
        have hbF : Hid (Below W.heap.size W w2) := Lib.hid (hbW.out.trans (hbq.out.mono hbW.out.size))
        cases hO : outOne l.length (f, t) with
        | true =>
          have hOL : Hid (outL rs l.length = true) := Lib.hid (hyes.out hO)
          clear hyes hstep hO
          go_wp2_with fail
          go_ret2
          exact ⟨.slice none 0 0, by rw [hOL.out]; rfl, Lib.hid (by rw [hOL.out]; exact OwnN.nil _ _), hbF⟩
        | false =>
          rw [hO] at hstep
          clear hyes hO hbF
          go_wp2_with fail
          go_roundw
          case rel => exact ⟨q + 1, by go_num, by omega, Lib.hid (fun _ => hstep.out), hbq⟩
          case measure => simp [intOf] <;> omega
      | false =>
        have hOL : Hid ((!byUid && outL rs l.length) = false) := Lib.hid (by
          cases byUid with
          | true => rfl
          | false =>
            have hge : ¬ q < rs.length := by rw [Bool.not_false, Bool.and_true] at hT; have := of_decide_eq_false hT; omega
            have := hno.out rfl
            rw [List.take_of_length_le (by omega)] at this
            exact this)
        clear hT hno
        have hbF : Hid (Below W.heap.size W wr) := Lib.hid (hbW.out.trans (hb.out.mono hbW.out.size))
        generalize wr = w1 at *
        go_wp2_with fail
        go_loopw [12, 13, 14] (fun v12 v13 _ wk => ∃ q : Nat, v13 = .int .i64 q ∧ q ≤ l.length ∧ Hid (OwnN wk w1.heap.size v12 (meantN rs l byUid q)) ∧ Hid (Below w1.heap.size w1 wk)) (fun _ v13 _ _ => l.length - (intOf v13).toNat)
        case atStart => exact ⟨0, rfl, Nat.zero_le _, Lib.hid (OwnN.nil _ _), Lib.hid (Below.refl _ _)⟩
        case round =>
          obtain ⟨p, rfl, hp, hown, hbk⟩ := hrel
          have hBW := Lib.hid (hbF.out.trans (hbk.out.mono hbF.out.size))
          obtain ⟨x0, x1, x2⟩ := hV.out wr (hb.out.trans (hbk.out.mono hb.out.size))
          by_cases hlt : p < l.length
          · obtain ⟨b, o, cap', hv, hbB, hcells⟩ := rowAt (hk0.out.later hBW.out) hlt
            injection hv with q1 q2 q3
            subst q1 q3
            obtain ⟨c0, c1⟩ := hcells p hlt
            have hst := Lib.hid (meantN_step (rs := rs) (byUid := byUid) hlt)
            have hln := Lib.hid (meantN_len rs l byUid p)
            obtain ⟨x, hx⟩ : ∃ x, l[p] = x := ⟨_, rfl⟩
            rw [hx] at c0 c1 hst
            have hl0 : (0 : Int) ≤ (p : Int) := by omega
            have hl1 : (p : Int) < (l.length : Int) := by omega
            clear hcells hx hbB c1
            go_upto_region 17 with fail
            go_cut [93] (fun v93 wx => v93 = .bool (hitB rs l byUid p x.1) ∧ Hid (Below wr.heap.size wr wx))
            case first =>
              cases byUid with
              | true =>
                have hm1 := Lib.hid (hmo.out wr hBW.out)
                go_wp2_with fail
                refine hm1.out.mono ?_
                rintro e w5 ⟨rfl, hb5⟩
                have hh1 := Lib.hid (hhas.out w5 (mostL l) x.1 (hBW.out.trans (hb5.out.mono hBW.out.size)))
                clear hm1 x0 x1 x2 c0
                obtain ⟨Z, hZ⟩ : ∃ Z, hasL rs (mostL l) x.1 = Z := ⟨_, rfl⟩
                rw [hZ] at hh1
                replace hZ := Lib.hid hZ
                go_wp2_with fail
                refine hh1.out.mono ?_
                rintro e w6 ⟨rfl, hb6⟩
                have hbE := Lib.hid (hb5.out.trans (hb6.mono hb5.out.size))
                clear hh1 hb5 hb6
                have hZ2 : Hid (hitB rs l true p x.1 = Z) := Lib.hid hZ.out
                cases Z with
                | true =>
                  go_wp2_with fail
                  go_meet
                  case rel => exact ⟨by rw [hZ2.out], hbE⟩
                | false =>
                  go_wp2_with fail
                  go_meet
                  case rel => exact ⟨by rw [hZ2.out], hbE⟩
              | false =>
                have hw3 : IntKind.u64.wrap (p : Int) = (p : Int) := by rw [IntKind.wrap_u64]; omega
                have hw4 : IntKind.u64.wrap ((p : Int) + 1) = (p : Int) + 1 := by rw [IntKind.wrap_u64]; omega
                have hh0 := hhas.out wr l.length (p + 1) hBW.out
                rw [show ((p + 1 : Nat) : Int) = (p : Int) + 1 from by omega] at hh0
                have hh1 := Lib.hid hh0
                clear hh0 c0
                go_wp2_with fail
                refine hh1.out.mono ?_
                rintro e w6 ⟨rfl, hb6⟩
                have hbE := Lib.hid hb6
                clear hh1 hb6 x0 x1 x2
                go_wp2_with fail
                go_meet
                case rel => exact ⟨rfl, hbE⟩
            case rest =>
            obtain ⟨rfl, hb5⟩ := hcut
            generalize wc = w5 at *
            have hb6 := Lib.hid (hbk.out.trans (hb5.out.mono hbk.out.size))
            have ho5 := Lib.hid (hown.out.below hb5.out)
            clear hbk hown hb5 x0 x1 x2 c0
            cases hH : hitB rs l byUid p x.1 with
            | false =>
              rw [hH] at hst
              have ho6 : Hid (OwnN w5 w1.heap.size u12 (meantN rs l byUid (p + 1))) := Lib.hid (by rw [hst.out]; exact ho5.out)
              clear hst hH ho5
              go_wp2_with fail
              go_roundw
              case rel => exact ⟨p + 1, by go_num, by omega, ho6, hb6⟩
              case measure => simp [intOf] <;> omega
            | true =>
              rw [hH] at hst
              have hsz8 : Hid (((meantN rs l byUid p).length + 1) * 8 ≤ 140737488355328) := Lib.hid (by have := hln.out; omega)
              have hsz := hb6.out.size
              obtain ⟨out, hout⟩ : ∃ out, meantN rs l byUid p = out := ⟨_, rfl⟩
              rw [hout] at hst ho5 hsz8
              replace hst : Hid (meantN rs l byUid (p + 1) = out ++ [x.1]) := Lib.hid (by rw [hst.out]; rfl)
              clear hH hout hln
              go_wp2_with (at_builtin; refine wpList_append_num (W := w5) rfl (.tmp 94) (.tmp 96) rfl w1.heap.size u12 out x.1 rfl rfl ho5.out hsz8.out hsz ?_)
              intro v12 w7 ho7 hb7
              have hb8 := Lib.hid (hb6.out.trans hb7)
              have ho8 : Hid (OwnN w7 w1.heap.size v12 (meantN rs l byUid (p + 1))) := Lib.hid (by rw [hst.out]; exact ho7)
              clear ho7 hb7 ho5 hst hb6 hsz
              go_wp2_with fail
              go_roundw
              case rel => exact ⟨p + 1, by go_num, by omega, ho8, hb8⟩
              case measure => simp [intOf] <;> omega
          · obtain rfl : p = l.length := by omega
            go_wp2_with fail
            go_ret2
            exact ⟨_, by rw [hOL.out]; rfl, Lib.hid (by rw [hOL.out]; exact hown.out.low hbF.out.size), hBW⟩
end Go.Proofs.Ytcnebfmlelcliaa
namespace Go.Proofs.Ytcnebfmlelcliaa
open Go.RowKit

set_option maxRecDepth 100000 in
set_option maxHeartbeats 4000000 in
theorem same_any (va vb : Value) (a b : List Rng) (w : World) (ha : RangesIn w w.heap.size va a) (hb : RangesIn w w.heap.size vb b) (hl : a.length ≤ 9223372036854775807) :
    Calls Try.prog 17 #[va, vb] w fun e w' => e = .returned (.bool (decide (a = b))) ∧ Below w.heap.size w w' := by
  have ha0 := Lib.hid ha
  have hb0 := Lib.hid hb
  obtain ⟨ao, cap, rfl, -⟩ := ha
  obtain ⟨ao2, cap2, rfl, -⟩ := hb
  by_cases hlen : a.length = b.length
  · go_enter Try.func17, Try.ntmps17
    rw [← hlen]
    have hne : ((a.length : Int) != (a.length : Int)) = false := by simp
    have hlen0 := Lib.hid hlen
    clear hlen
    go_wp2_with fail
    go_loopw [5] (fun v5 wr => ∃ q : Nat, v5 = .int .i64 q ∧ q ≤ a.length ∧ Hid (a.take q = b.take q) ∧ Hid (Below w.heap.size w wr)) (fun v5 _ => a.length - (intOf v5).toNat)
    case atStart => exact ⟨0, rfl, Nat.zero_le _, Lib.hid rfl, Lib.hid (Below.refl _ _)⟩
    case round =>
      obtain ⟨q, rfl, hq, heq, hbl⟩ := hrel
      by_cases hlt : q < a.length
      · have hlt2 : q < b.length := by rw [← hlen0.out]; exact hlt
        obtain ⟨a1, p1, hv1, hk | ⟨b1, o1, hao, hbB1, hcap1, hcells1⟩⟩ := ha0.out.later hbl.out
        · rw [hk] at hlt; simp at hlt
        obtain ⟨a2, p2, hv2, hk | ⟨b2, o2, hao2, hbB2, hcap2, hcells2⟩⟩ := hb0.out.later hbl.out
        · rw [hk] at hlt2; simp at hlt2
        cases hv1
        cases hv2
        subst hao hao2
        obtain ⟨c0, c1⟩ := hcells1 q hlt
        obtain ⟨d0, d1⟩ := hcells2 q hlt2
        have hstep : a[q] = b[q] → a.take (q + 1) = b.take (q + 1) := fun h => by rw [List.take_succ_eq_append_getElem hlt, List.take_succ_eq_append_getElem hlt2, heq.out, h]
        have hdiff : a[q] ≠ b[q] → decide (a = b) = false := fun h => decide_eq_false (fun e => h (by subst e; rfl))
        generalize a[q] = x at c0 c1 hstep hdiff
        generalize b[q] = y at d0 d1 hstep hdiff
        obtain ⟨x0, x1⟩ := x
        obtain ⟨y0, y1⟩ := y
        dsimp only at c0 c1 d0 d1
        clear hcells1 hcells2 hlt2
        have hbW := Lib.hid (fun m => below_drewN hbl.out m)
        have hi0 : (0 : Int) ≤ (q : Int) := by omega
        have hi1 : (q : Int) < (a.length : Int) := by omega
        by_cases hxy : x0 = y0 ∧ x1 = y1
        · obtain ⟨rfl, rfl⟩ := hxy
          have hs := Lib.hid (hstep rfl)
          clear hstep hdiff
          go_wp2_with fail
          go_quiet (fail)
          go_wp2_with fail
          go_roundw
          case rel => exact ⟨q + 1, by go_num, by omega, hs, Lib.hid (hbW.out _)⟩
          case measure => simp [intOf] <;> omega
        · have hd := Lib.hid (hdiff (fun e => hxy (by simpa using e)))
          clear hstep hdiff
          by_cases h0 : x0 = y0
          · have e0 : ((x0 : Int) == (y0 : Int)) = true := beq_iff_eq.2 (by omega)
            have e1 : ((x1 : Int) == (y1 : Int)) = false := beq_eq_false_iff_ne.2 (by omega)
            clear h0 hxy
            go_wp2_with fail
            go_quiet (fail)
            go_wp2_with fail
            go_ret
            exact ⟨by rw [hd.out]; rfl, hbW.out _⟩
          · have e0 : ((x0 : Int) == (y0 : Int)) = false := beq_eq_false_iff_ne.2 (by omega)
            clear h0 hxy
            go_wp2_with fail
            go_quiet (fail)
            go_wp2_with fail
            go_ret
            exact ⟨by rw [hd.out]; rfl, hbW.out _⟩
      · obtain rfl : q = a.length := by omega
        have hd : Hid (decide (a = b) = true) := Lib.hid (decide_eq_true (by
          have h := heq.out
          rw [List.take_length] at h
          rw [h, hlen0.out, List.take_length]))
        go_wp2_with fail
        go_ret
        exact ⟨by rw [hd.out]; rfl, hbl.out⟩
  · have hn : ((a.length : Int) != (b.length : Int)) = true := by rw [bne_iff_ne]; omega
    have hd : Hid (decide (a = b) = false) := Lib.hid (decide_eq_false (fun e => hlen (by rw [e])))
    clear hlen
    go_enter Try.func17, Try.ntmps17
    go_wp2_with fail
    go_ret
    exact ⟨by rw [hd.out]; rfl, Below.refl _ _⟩
end Go.Proofs.Ytcnebfmlelcliaa
namespace Go.Proofs.Ytcnebfmlelcliaa
open Go.RowKit

def turn (r : Rng) : Rng := (r.2, r.1)
def turnL (rs : List Rng) : List Rng := (rs.map turn).reverse
theorem turn_one (most n : Nat) (r : Rng) : hasOne most n (turn r) = hasOne most n r := by
  unfold hasOne turn
  dsimp only
  rw [Int.min_comm, Int.max_comm]
theorem turn_has (rs : List Rng) (most n : Nat) : hasL (turnL rs) most n = hasL rs most n := by
  unfold hasL turnL
  rw [List.any_reverse, List.any_map]
  congr 1
  funext r
  exact turn_one most n r
theorem turn_step (rs : List Rng) (i : Nat) (h : i < rs.length) : turnL (rs.drop i) = turnL (rs.drop (i + 1)) ++ [(rs[i].2, rs[i].1)] := by
  unfold turnL
  rw [List.drop_eq_getElem_cons h, List.map_cons, List.reverse_cons]
  rfl
/-- 'append(v, Range{x, y})', in a drawn region -/
theorem step_append_range {W : World} {ops : Array Oper} {o : Oper} {a : Act} {K : Act → World → Prop} {Q : Exit → Act → World → Prop} {E : Prop} (hgd : o.guard = none) (s x : Operand)
    (ho : o.op = .call { callee := .builtin .append, args := #[s, x], argTypes := #[29, 29] }) (B : Nat) (v : Value) (l : List Rng) (p q : Nat)
    (hs : a.eval s = v) (hx : a.eval x = .slice (some ⟨W.heap.size, 0, none⟩) 1 1) (hown : OwnR W B v l) (hlen : (l.length + 1) * 16 ≤ 140737488355328) (hbase : B ≤ W.heap.size)
    (h : ∀ v' w', OwnR w' B v' (l ++ [(p, q)]) → Below B W w' → K (a.put o.dst v') w') : if Region.wanted o (yielded ops a.tmps) = true then Oper.wp Try.prog o a (W.alloc (.cells #[.int .u64 p, .int .u64 q] 57)) K Q else E := by
  have hw : Region.wanted o (yielded ops a.tmps) = true := by simp [Region.wanted, hgd]
  rw [if_pos hw]
  have hown2 := hown.alloc (.cells #[.int .u64 p, .int .u64 q] 57)
  refine wp_append_rd s x 29 ho B 57 _ 2 16 Try.underlying29 rng_info rfl (by decide) v _ l.length 1 (rangesCells l) (rangesCells [(p, q)]) hs hx hown2 (Rd.of_own (OwnR.one W p q)) rfl (rangesCells_one _) (by unfold maxLen; omega) hlen (by simp; omega) ?_
  intro v' w' ho' hg' _
  refine h v' w' ?_ (((Below.refl B W).alloc hbase _).grown hg' (by simp; omega) (fun k hk => (World.ownsRow.lt hown2 k hk).1))
  unfold OwnR
  rw [List.length_append, rangesCells_app]
  exact ho'
theorem turn_len (rs : List Rng) : (turnL rs).length = rs.length := by simp [turnL]
end Go.Proofs.Ytcnebfmlelcliaa
namespace Go.Proofs.Ytcnebfmlelcliaa
open Go.RowKit Go.Shelf Go.Maps
attribute [local go_sem] Oper.semAt_some

theorem encU_inj {x y : Nat} (h : encU x = encU y) : x = y := by
  unfold encU at h
  injection h with h1 h2
  omega
theorem key_u64 {P : Program} {k : TypeId} (hk : P.underlying k = some (.int .u64)) {key : Value} {kl : Lit} (h : keyOf P k key = some kl) : ∃ x : Nat, key = encU x ∧ kl = .int .u64 (x : Int) ∧ x < 18446744073709551616 := by
  cases key <;> simp [keyOf, hk, mapKey] at h
  rename_i q a
  obtain ⟨⟨rfl, hw⟩, rfl⟩ := h
  have hb := Go.bounds_u64 hw
  exact ⟨a.toNat, by unfold encU; congr 1; omega, by congr 1; omega, by omega⟩
/-- no key twice; a key has come just where the map has it and it is no longer to come -/
def Came {H : Type} (D0 : DataW H) (left : Lit → Bool) (ss : List Nat) : Prop := ss.Nodup ∧ ∀ x : Nat, x ∈ ss ↔ (Maps.has D0 (.int .u64 x) = true ∧ left (.int .u64 x) = false)
/-- just the map's keys -/
def KeysOf {H : Type} (D0 : DataW H) (ss : List Nat) : Prop := (ss.Nodup ∧ ∀ x : Nat, x ∈ ss ↔ Maps.has D0 (.int .u64 x) = true) ∧ ss.length ≤ Maps.size D0
theorem Came.start {H : Type} (D0 : DataW H) : Came D0 (Maps.has D0) [] := ⟨List.nodup_nil, fun x => by cases Maps.has D0 (.int .u64 x) <;> simp⟩
theorem Came.step {H : Type} {D0 : DataW H} {left : Lit → Bool} {ss : List Nat} (h : Came D0 left ss) {x : Nat} {y : DataW H} (hlk : left (.int .u64 x) = true) (hat : ∀ zd, D0.atKey (.int .u64 x) zd = y) : Came D0 (fun z => left z && !z.sameKey (.int .u64 x)) (ss ++ [x]) := by
  have hhas : Maps.has D0 (.int .u64 x) = true := Maps.has_true_of_atKey hat
  have hnew : x ∉ ss := fun hx => by have := ((h.2 x).1 hx).2; rw [hlk] at this; cases this
  refine ⟨List.nodup_append.2 ⟨h.1, by simp, fun a ha b hb => by simp at hb; subst hb; exact fun e => hnew (e ▸ ha)⟩, fun y => ?_⟩
  by_cases hy : y = x
  · subst hy; simp [hhas, Lit.sameKey]
  · have hy' : ¬ ((y : Int) = (x : Int)) := by omega
    simp [h.2 y, hy, hy', Lit.sameKey]
theorem Came.done {H : Type} {D0 : DataW H} {left : Lit → Bool} {ss : List Nat} (h : Came D0 left ss) (hl : ∀ kl, left kl = false) (hn : ss.length ≤ Maps.size D0) : KeysOf D0 ss := ⟨⟨h.1, fun x => by rw [h.2 x, hl]; simp⟩, hn⟩
def encsU (x : Nat) : Array Value := #[encU x]
set_option maxRecDepth 100000 in
set_option maxHeartbeats 2000000 in
theorem keys1_in {H : Type} (n : Nat) (hn : 1 ≤ n) (l Bm b nn : Nat) (D0 : DataW H) {R : Value → Option (DataW H × List MemPlace)} (J Jx : List Nat → World → Prop) (W : World) (hJ : AbidesFrom W.heap.size J)
    (hY : ∀ pre x W1, J pre W1 → pre.length < Maps.size D0 → YieldAt Fence.wide (n - 1) Try.prog l (encsU x) W1 fun e W' =>
      (e = .returned (.bool true) ∧ J (pre ++ [x]) W' ∧ KeepsWalks W1 W') ∨ (e = .returned (.bool false) ∧ Jx (pre ++ [x]) W'))
    (hm : W.cell? ⟨Bm, 0, none⟩ = some (.map (some b))) (hown : W.ownsMap Try.prog 22 R b nn D0) (h0 : J [] W) :
    CallsIn Fence.wide n Try.prog 58 #[.func (.yield l) #[] #[], .pointer (some ⟨Bm, 0, none⟩)] W fun e W' => (∃ v, e = .returned v) ∧ ((∃ ys, KeysOf D0 ys ∧ J ys W') ∨ (∃ pre, True ∧ Jx pre W')) := by
  refine callsIn_of_wp Try.func58 rfl trivial ?_ rfl
  simp only [Try.ntmps58, List.size_toArray, List.length_cons, List.length_nil, Nat.reduceAdd, Nat.reduceSub, Array.replicate_succ, Array.replicate_zero, List.push_toArray, List.append_toArray, List.nil_append, List.cons_append]
  gi_wp2_with (first
    | (gi_at_range; refine wpListIn_range_own _ rfl _ 89 rfl 22 3 (int_keyed Try.underlying22) Try.underlying89 _ b nn _ rfl hown ?_; intro w0 hrg0 hg0 hs0)
    | gi_in)
  go_frame
  gi_loopw [3] (fun _ wr => ∃ (left : Lit → Bool) (cnt : Nat) (ss : List Nat), wr.ranges Try.prog 22 R b W.heap.size nn D0 left cnt ∧ ss.length + cnt ≤ Maps.size D0 ∧ Came D0 left ss ∧ J ss wr)
    (fun _ wr => wr.rangeLeft b W.heap.size)
  case atStart =>
    exact ⟨_, _, [], hrg0, by simp, Came.start D0, hJ [] W w0 none h0 hg0 (fun r e => by cases e)⟩
  case round =>
    obtain ⟨left, cnt, ss, hrg, hcs, hC, hJs⟩ := hrel
    gi_wp2_with (first
      | (gi_at_next; refine wpListIn_next_ranges _ rfl _ rfl 22 (int_keyed Try.underlying22) R encU id (fun key kl hk => by obtain ⟨x, hx, _⟩ := key_u64 Try.underlying22 hk; exact ⟨x, hx⟩) (fun v _ _ => ⟨v, rfl⟩) b W.heap.size nn _ _ _ rfl hrg ?_ ?_)
      | gi_in)
    · intro hc0 hl0
      gi_wp2
      go_end0
      exact ⟨⟨_, rfl⟩, .inl ⟨ss, hC.done hl0 (by omega), hJs⟩⟩
    · intro x c kl yd yp w2 cnt2 hkey hlk hv hat hrg2 hlt hg2 hs2 hen
      obtain ⟨x', ex, rfl, _⟩ := key_u64 Try.underlying22 hkey
      obtain rfl : x = x' := encU_inj ex
      have hJ2 : J ss w2 := hJ ss wr w2 (some W.heap.size) hJs hg2 (fun r e => by cases e; exact ⟨Nat.le_refl _, hrg.iter_walk⟩)
      obtain ⟨fn, tmps, assign, body, hy, hR⟩ := hY ss x w2 hJ2 (by omega)
      unfold encsU at hy
      clear hs2
      gi_wp2
      refine hR.mono ?_
      rintro e W3 (⟨rfl, hJ3, hk3⟩ | ⟨rfl, hJx3⟩)
      · gi_wp2
        have hrg3 := hrg2.of_walks hk3
        go_roundw
        case rel => exact ⟨_, cnt2, ss ++ [x], hrg3, by simp; omega, hC.step hlk hat, hJ3⟩
        case measure => rw [hrg3.left_eq, hrg.left_eq]; exact hlt
      · gi_wp2
        refine bodyPost_ret (results_none rfl _ _ _) rfl ?_
        exact ⟨⟨_, rfl⟩, .inr ⟨_, trivial, hJx3⟩⟩
theorem keys_stops {H : Type} (n : Nat) (hn : 1 ≤ n) (Bm b nn : Nat) (D0 : DataW H) {R : Value → Option (DataW H × List MemPlace)} (w : World) (hBm : Bm < w.heap.size) (hm : w.cell? ⟨Bm, 0, none⟩ = some (.map (some b))) (hown : w.ownsMap Try.prog 22 R b nn D0) :
    SeqStopsK Fence.wide n Try.prog 58 #[.pointer (some ⟨Bm, 0, none⟩)] encsU KeepsWalks (KeysOf D0) (fun _ => True) (Maps.size D0) w := fun l J Jx W hW hJ _ hY h0 => by
  have hown' : W.ownsMap Try.prog 22 R b nn D0 := by
    have hbl := hown.lt
    obtain ⟨es, clock, hb, Ft, hs, hD⟩ := hown
    exact ⟨es, clock, (hW.block b hbl).trans hb, Ft, hs, hD⟩
  exact keys1_in n hn l Bm b nn D0 J Jx W hJ hY ((hW.cell (p := ⟨Bm, 0, none⟩) hBm).trans hm) hown' h0
set_option maxHeartbeats 1000000 in
/-- maps.Keys(m): the map is boxed; the function value captures the box -/
theorem keys_in (mb : Option Nat) (w : World) :
    Calls Try.prog 48 #[.map mb] w fun e w' => e = .returned (.func (.func 58) #[] #[.pointer (some ⟨w.heap.size, 0, none⟩)]) ∧ w' = w.alloc (.cells #[.map mb] 89) := by
  go_enter Try.func48, Try.ntmps48
  go_wp2_with fail
  go_ret
  exact ⟨rfl, rfl⟩
/-- what is collected of the keys of the map in block b -/
def CollectRet {H : Type} (D0 : DataW H) (w : World) (e : Ending) (w' : World) : Prop := ∃ (v : Value) (ss : List Nat), e = .returned v ∧ Hid (KeysOf D0 ss) ∧ Hid (OwnN w' w.heap.size v ss) ∧ Hid (Below w.heap.size w w')
set_option maxRecDepth 100000 in
set_option maxHeartbeats 4000000 in
theorem appendSeq_any {H : Type} (Bm b nn : Nat) (D0 : DataW H) {R : Value → Option (DataW H × List MemPlace)} (w : World) (hBm : Bm < w.heap.size) (hm : w.cell? ⟨Bm, 0, none⟩ = some (.map (some b))) (hown : w.ownsMap Try.prog 22 R b nn D0) (hsz : Maps.size D0 ≤ 1000000) :
    Calls Try.prog 65 #[.slice none 0 0, .func (.func 58) #[] #[.pointer (some ⟨Bm, 0, none⟩)]] w (CollectRet D0 w) := by
  refine (callsIn_wide (n := 3)).1 ?_
  refine callsIn_of_wp_marks Try.func65 rfl trivial ?_ rfl
  simp only [Try.ntmps65, List.size_toArray, List.length_cons, List.length_nil, Nat.reduceAdd, Nat.reduceSub, Array.replicate_succ, Array.replicate_zero, List.push_toArray, List.append_toArray, List.nil_append, List.cons_append]
  gi_wp2
  generalize hW0 : w.alloc (.cells #[.slice none 0 0] 30) = W0
  have hs0 : W0.heap.size = w.heap.size + 1 := by rw [← hW0]; simp
  have hB0 : Below w.heap.size w W0 := by rw [← hW0]; exact (Below.refl _ w).alloc (Nat.le_refl _) _
  have hbx : Boxed W0 w.heap.size 30 (.slice none 0 0) := by rw [← hW0]; exact Boxed.new w _ _
  have hown0 : W0.ownsMap Try.prog 22 R b nn D0 := by
    have hbl := hown.lt
    obtain ⟨es, clock, hb, Ft, hs, hD⟩ := hown
    exact ⟨es, clock, (hB0.block b hbl).trans hb, Ft, hs, hD⟩
  have hst := keys_stops 2 (by decide) Bm b nn D0 W0 (by omega) ((hB0.cell (p := ⟨Bm, 0, none⟩) hBm).trans hm) hown0
  obtain ⟨i0, hi, hz0, hz1, hz2⟩ := info_parts u64_info
  have hne : 30 ≠ 22 := by decide
  clear hW0 hown hm
  refine wpIn_rangeFunc_ownF rfl (by decide) (gf := 58) (lb := #[.pointer (some ⟨Bm, 0, none⟩)]) rfl trivial (enters_of Try.func58 (by kernel_rfl) rfl)
    hst walksK_t walksK_b (Below.refl _ _) (fun _ => rfl)
    (fun pre W => (∃ v, Boxed W w.heap.size 30 v ∧ W.ownsRow w.heap.size 22 1 v pre.length (pre.map encU) ∧ True) ∧ Below w.heap.size w W)
    (fun _ _ _ => False)
    (OwnFrom.and (Own.from (holdsRow_own w.heap.size w.heap.size 30 22 1 (fun pre : List Nat => pre.length) (fun pre => pre.map encU) (fun _ _ => True)) _) (ownFrom_below (Nat.le_refl _) (by omega)))
    (fun c => Own.from (fun _ _ _ _ hs _ _ => hs) _)
    ⟨⟨_, hbx, World.ownsRow_nil _ _ _ _, trivial⟩, hB0⟩
    (fun x => { tmps := #[.slice none 0 0, .func (.func 58) #[] #[.pointer (some ⟨Bm, 0, none⟩)], .pointer (some ⟨w.heap.size, 0, none⟩), undef, .slice none 0 0, .int .u64 (x : Int), .func (.func 58) #[] #[.pointer (some ⟨Bm, 0, none⟩)], .int .u64 (x : Int), undef, undef, undef, undef, undef], defers := [] }) ?assign ?body ?done ?stop
  case assign =>
    intro l x W K hK
    simp only [encsU, encU]
    gi_wp2
    exact hK
  case body =>
    rintro l pre x W ⟨⟨v, hv, hrow, -⟩, hB⟩ hlen
    have hc := hv.cell
    have hf := hv.frozen
    gi_wp2_with (gi_at_builtin; refine wpListIn_append_own _ rfl _ _ 30 rfl w.heap.size 22 i0 (.int .u64 0) 1 8 Try.underlying30 hi hz0 hz1 hz2 rfl (by decide) _ _ _ rfl (hrow.alloc _) ⟨W.heap.size, 0, none⟩ 1 1 [.int .u64 (x : Int)] rfl rfl (cell_one_new _ _ _) (by simp [Value.oneCell']) (by unfold maxLen; omega) (by omega) (by have := hB.size; simp; omega) ?_; intro v' w1 hown' hgrow _; obtain ⟨g', cap', rfl⟩ := ownsRow_succ hown'; obtain ⟨hv1, hv2, hr2, hk2, hb2⟩ := hv.appended hne hrow hB.size (Nat.le_refl _) hown' hgrow; have hc1 := hv1.cell; have hf1 := hv1.frozen)
    exact ⟨hk2, hk2.walks, ⟨_, hv2, by simpa [encU] using hr2, trivial⟩, hB.trans hb2⟩
  case done =>
    rintro D ys W hD hys ⟨⟨v, hv, hrow, -⟩, hB⟩ hK
    have c1 := hv.cell
    gi_wp2
    refine ⟨by simp, .inl ⟨_, _, rfl, run_takeDeferred hK, ?_⟩⟩
    refine ⟨_, ?_, v, ys, rfl, Lib.hid hys, Lib.hid (ownsRow_putObj hrow _ hK rfl), Lib.hid (hB.trans (belowK_b (w := w) (Nat.le_refl _) _ D _ _ (by omega) hK rfl rfl))⟩
    simp [results, Try.f65, go_sem]
  case stop =>
    rintro D c pre W hD hpre hF
    exact hF.elim
end Go.Proofs.Ytcnebfmlelcliaa
namespace Go.Proofs.Ytcnebfmlelcliaa
open Go.RowKit Go.Maps

theorem collect_any {H : Type} (Bm b nn : Nat) (D0 : DataW H) {R : Value → Option (DataW H × List MemPlace)} (w : World) (hBm : Bm < w.heap.size) (hm : w.cell? ⟨Bm, 0, none⟩ = some (.map (some b))) (hown : w.ownsMap Try.prog 22 R b nn D0) (hsz : Maps.size D0 ≤ 1000000) :
    Calls Try.prog 56 #[.func (.func 58) #[] #[.pointer (some ⟨Bm, 0, none⟩)]] w (CollectRet D0 w) := by
  have hc := Lib.hid (appendSeq_any Bm b nn D0 w hBm hm hown hsz)
  clear hm hown
  go_enter Try.func56, Try.ntmps56
  go_wp2_with fail
  refine hc.out.mono ?_
  rintro e w1 ⟨v, ss, rfl, h1, h2, h3⟩
  go_wp2_with fail
  go_ret
  exact ⟨v, ss, rfl, h1, h2, h3⟩
/-- what slices.Sort does to a row of the call's own of at most N numbers -/
def SortOk (N : Nat) : Prop := ∀ (W : World) (B : Nat) (v : Value) (ss : List Nat), ss.length ≤ N → B ≤ W.heap.size → OwnN W B v ss → Calls Try.prog 57 #[v] W fun e W' => e = .returned (.tuple #[]) ∧ ∃ ts, Hid (OwnN W' B v ts) ∧ Hid (ts.Perm ss ∧ ts.Pairwise (· ≤ ·)) ∧ Hid (Below B W W')
/-- the map's keys, rising -/
def SortedRet {H : Type} (D0 : DataW H) (w : World) (e : Ending) (w' : World) : Prop := ∃ (v : Value) (ts : List Nat), e = .returned v ∧ Hid (KeysOf D0 ts ∧ ts.Pairwise (· ≤ ·)) ∧ Hid (OwnN w' w.heap.size v ts) ∧ Hid (Below w.heap.size w w')
theorem KeysOf.perm {H : Type} {D0 : DataW H} {ss ts : List Nat} (h : KeysOf D0 ss) (hp : ts.Perm ss) : KeysOf D0 ts :=
  ⟨⟨hp.nodup_iff.2 h.1.1, fun x => by rw [hp.mem_iff]; exact h.1.2 x⟩, by rw [hp.length_eq]; exact h.2⟩
theorem sorted_any {N : Nat} (hsort : SortOk N) {H : Type} (Bm b nn : Nat) (D0 : DataW H) {R : Value → Option (DataW H × List MemPlace)} (w : World) (hBm : Bm < w.heap.size) (hm : w.cell? ⟨Bm, 0, none⟩ = some (.map (some b))) (hown : w.ownsMap Try.prog 22 R b nn D0) (hsz : Maps.size D0 ≤ 1000000) (hN : Maps.size D0 ≤ N) :
    Calls Try.prog 47 #[.func (.func 58) #[] #[.pointer (some ⟨Bm, 0, none⟩)]] w (SortedRet D0 w) := by
  have hc := Lib.hid (collect_any Bm b nn D0 w hBm hm hown hsz)
  replace hsort := Lib.hid hsort
  clear hm hown
  go_enter Try.func47, Try.ntmps47
  go_wp2_with fail
  refine hc.out.mono ?_
  rintro e w1 ⟨v, ss, rfl, h1, h2, h3⟩
  have hs := Lib.hid (hsort.out w1 w.heap.size v ss (Nat.le_trans h1.out.2 hN) h3.out.size h2.out)
  clear hc
  go_wp2_with fail
  refine hs.out.mono ?_
  rintro e w2 ⟨rfl, ts, g1, g2, g3⟩
  have hk := Lib.hid (And.intro (h1.out.perm g2.out.1) g2.out.2)
  have hb := Lib.hid (h3.out.trans g3.out)
  clear hs
  go_wp2_with fail
  go_ret
  exact ⟨v, ts, rfl, hk, g1, hb⟩
end Go.Proofs.Ytcnebfmlelcliaa
namespace Go.Proofs.Ytcnebfmlelcliaa
open Go.RowKit

/-- block g is a row of the numbers l, and what lies behind -/
def Row (W : World) (g : Nat) (l : List Nat) (rest : List Value) : Prop := W.heap[g]? = some (.cells (l.map encU ++ rest).toArray 22 (0, 0))
theorem Row.cell {W : World} {g : Nat} {l : List Nat} {rest : List Value} (h : Row W g l rest) (j : Nat) (hj : j < l.length) : W.cell? ⟨g, j, none⟩ = some (.int .u64 (l[j] : Nat)) := by
  rw [cell_at h j]
  simp only [List.getElem?_toArray]
  rw [List.getElem?_append_left (by simpa using hj), List.getElem?_map, List.getElem?_eq_getElem hj]
  rfl
theorem Row.free {W : World} {g : Nat} {l : List Nat} {rest : List Value} (h : Row W g l rest) (j : Nat) : W.frozen? ⟨g, j, none⟩ = false := by
  simp [World.frozen?, show W.heap[g]? = _ from h]
theorem Row.set {W : World} {g : Nat} {l : List Nat} {rest : List Value} (h : Row W g l rest) (j : Nat) (hj : j < l.length) (x : Nat) : Row (W.setCell ⟨g, j, none⟩ (.int .u64 x)) g (l.set j x) rest := by
  have h0 : W.heap[g]? = _ := h
  unfold Row
  simp only [World.setCell, Array.getElem?_modify, h0, if_true, Option.map_some]
  have e : (l.map encU ++ rest).toArray.setIfInBounds j (.int .u64 x) = ((l.set j x).map encU ++ rest).toArray := by
    rw [List.setIfInBounds_toArray, List.set_append_left _ _ (by simpa using hj), List.map_set]
    rfl
  rw [← e]
  rfl
theorem Row.drew {W : World} {g : Nat} {l : List Nat} {rest : List Value} (h : Row W g l rest) : Row W.drew g l rest := h
theorem Row.drewN {W : World} {g : Nat} {l : List Nat} {rest : List Value} (h : Row W g l rest) (n : Nat) : Row (W.drewN n) g l rest := h
/-- all that lay in W0 lies as it lay, but for block g -/
def Kept1 (W0 : World) (g : Nat) (W : World) : Prop := W.os = W0.os ∧ W.tape = W0.tape ∧ W.output = W0.output ∧ W0.heap.size ≤ W.heap.size ∧ ∀ k, k < W0.heap.size → k ≠ g → W.heap[k]? = W0.heap[k]?
theorem Kept1.refl (W : World) (g : Nat) : Kept1 W g W := ⟨rfl, rfl, rfl, Nat.le_refl _, fun _ _ _ => rfl⟩
theorem Kept1.trans {W0 W W2 : World} {g : Nat} (h : Kept1 W0 g W) (k : Kept1 W g W2) : Kept1 W0 g W2 :=
  ⟨k.1.trans h.1, k.2.1.trans h.2.1, k.2.2.1.trans h.2.2.1, Nat.le_trans h.2.2.2.1 k.2.2.2.1, fun x hx h1 => (k.2.2.2.2 x (Nat.lt_of_lt_of_le hx h.2.2.2.1) h1).trans (h.2.2.2.2 x hx h1)⟩
theorem Kept1.set {W0 W : World} {g : Nat} (h : Kept1 W0 g W) (j : Nat) (v : Value) : Kept1 W0 g (W.setCell ⟨g, j, none⟩ v) :=
  ⟨h.1, h.2.1, h.2.2.1, by have := h.2.2.2.1; simpa using this, fun k hk h1 => by
    rw [heap_setCell_other W ⟨g, j, none⟩ k v h1]
    exact h.2.2.2.2 k hk h1⟩
theorem Kept1.drewN {W0 W : World} {g : Nat} (h : Kept1 W0 g W) (n : Nat) : Kept1 W0 g (W.drewN n) := ⟨h.1, h.2.1, h.2.2.1, h.2.2.2.1, h.2.2.2.2⟩
/-- the number at place i -/
def at_ (l : List Nat) (i : Nat) : Nat := l.getD i 0
def swp (l : List Nat) (i j : Nat) : List Nat := (l.set i (at_ l j)).set j (at_ l i)
theorem swp_len (l : List Nat) (i j : Nat) : (swp l i j).length = l.length := by simp [swp]
theorem at_lt {l : List Nat} {i : Nat} (h : i < l.length) : at_ l i = l[i] := by simp [at_, List.getD, h]
theorem swp_at (l : List Nat) (i j k : Nat) (hi : i < l.length) (hj : j < l.length) : at_ (swp l i j) k = if k = j then at_ l i else if k = i then at_ l j else at_ l k := by
  unfold swp at_
  simp only [List.getD_eq_getElem?_getD, List.getElem?_set, List.length_set]
  by_cases h1 : j = k
  · subst h1; simp [hj]
  · have h1' : ¬ k = j := fun e => h1 e.symm
    by_cases h2 : i = k
    · subst h2; simp [h1, h1', hi]
    · have h2' : ¬ k = i := fun e => h2 e.symm
      simp [h1, h1', h2, h2']
theorem swp_perm (l : List Nat) (i j : Nat) (hi : i < l.length) (hj : j < l.length) : (swp l i j).Perm l := by
  have h := Array.swap_perm (xs := l.toArray) (i := i) (j := j) (by simpa using hi) (by simpa using hj)
  have h2 := h.toList
  have e : (l.toArray.swap i j (by simpa using hi) (by simpa using hj)).toList = swp l i j := by
    unfold swp
    rw [at_lt hi, at_lt hj]
    simp [Array.swap]
  rw [e] at h2
  exact h2
/-- l' is l with places from a to b turned about, and no other -/
def Turned (a b : Nat) (l l' : List Nat) : Prop := l'.Perm l ∧ ∀ p, p < a ∨ b ≤ p → at_ l' p = at_ l p
theorem Turned.refl (a b : Nat) (l : List Nat) : Turned a b l l := ⟨List.Perm.refl _, fun _ _ => rfl⟩
theorem Turned.trans {a b : Nat} {l m k : List Nat} (h : Turned a b l m) (h2 : Turned a b m k) : Turned a b l k := ⟨h2.1.trans h.1, fun p hp => (h2.2 p hp).trans (h.2 p hp)⟩
theorem Turned.len {a b : Nat} {l m : List Nat} (h : Turned a b l m) : m.length = l.length := h.1.length_eq
theorem Turned.swp {a b : Nat} (l : List Nat) (i j : Nat) (hi : a ≤ i ∧ i < b) (hj : a ≤ j ∧ j < b) (hb : b ≤ l.length) : Turned a b l (swp l i j) :=
  ⟨swp_perm l i j (by omega) (by omega), fun p hp => by rw [swp_at l i j p (by omega) (by omega), if_neg (by omega), if_neg (by omega)]⟩
def SortedOn (l : List Nat) (a b : Nat) : Prop := ∀ p q, a ≤ p → p < q → q < b → at_ l p ≤ at_ l q
/-- sorted from a to i, but for the place j, to which all behind it is greater -/
def Hole (l : List Nat) (a i j : Nat) : Prop := (∀ p q, a ≤ p → p < q → q ≤ i → p ≠ j → q ≠ j → at_ l p ≤ at_ l q) ∧ ∀ q, j < q → q ≤ i → at_ l j ≤ at_ l q
theorem Hole.start {l : List Nat} {a i : Nat} (h : SortedOn l a i) : Hole l a i i := ⟨fun p q h1 h2 h3 h4 h5 => h p q h1 h2 (by omega), fun q h1 h2 => by omega⟩
theorem Hole.step {l : List Nat} {a i j : Nat} (h : Hole l a i j) (hj : a < j) (hji : j ≤ i) (hi : i < l.length) (hlt : at_ l j < at_ l (j - 1)) : Hole (swp l j (j - 1)) a i (j - 1) := by
  have e := fun k => swp_at l j (j - 1) k (by omega) (by omega)
  refine ⟨fun p q h1 h2 h3 h4 h5 => ?_, fun q h1 h2 => ?_⟩
  · rw [e p, e q, if_neg h4, if_neg h5]
    by_cases hp : p = j
    · rw [if_pos hp, if_neg (by omega)]
      exact h.1 (j - 1) q (by omega) (by omega) h3 (by omega) (by omega)
    · rw [if_neg hp]
      by_cases hq : q = j
      · rw [if_pos hq]
        exact h.1 p (j - 1) h1 (by omega) (by omega) hp (by omega)
      · rw [if_neg hq]
        exact h.1 p q h1 h2 h3 hp hq
  · rw [e (j - 1), e q, if_pos rfl, if_neg (by omega)]
    by_cases hq : q = j
    · rw [if_pos hq]; omega
    · rw [if_neg hq]; exact h.2 q (by omega) h2
theorem Hole.done {l : List Nat} {a i j : Nat} (h : Hole l a i j) (hj : j = a ∨ (a < j ∧ ¬ at_ l j < at_ l (j - 1))) (haj : a ≤ j) : SortedOn l a (i + 1) := by
  intro p q h1 h2 h3
  by_cases hp : p = j
  · subst hp; exact h.2 q h2 (by omega)
  · by_cases hq : q = j
    · subst hq
      rcases hj with rfl | ⟨hj1, hj2⟩
      · omega
      · by_cases hp2 : p = q - 1
        · subst hp2; omega
        · have := h.1 p (q - 1) h1 (by omega) (by omega) hp (by omega)
          omega
    · exact h.1 p q h1 h2 (by omega) hp hq
end Go.Proofs.Ytcnebfmlelcliaa
namespace Go.Proofs.Ytcnebfmlelcliaa
open Go.RowKit

set_option maxHeartbeats 1000000 in
theorem isNaN_any (x : Nat) (w : World) : Calls Try.prog 91 #[.int .u64 x] w fun e w' => e = .returned (.bool false) ∧ w' = w := by
  go_enter Try.func91, Try.ntmps91
  go_wp2_with fail
  go_ret
  exact ⟨by simp, rfl⟩
set_option maxHeartbeats 1000000 in
theorem less_any (x y : Nat) (w : World) : Calls Try.prog 78 #[.int .u64 x, .int .u64 y] w fun e w' => e = .returned (.bool (decide (x < y))) ∧ w' = w := by
  have h1 := Lib.hid (fun w => isNaN_any x w)
  go_enter Try.func78, Try.ntmps78
  go_wp2_with fail
  refine (h1.out _).mono ?_
  rintro e w1 ⟨rfl, rfl⟩
  go_wp2_with fail
  go_ret
  exact ⟨by simp, rfl⟩
set_option maxRecDepth 100000 in
set_option maxHeartbeats 4000000 in
theorem insertion_any (g cap : Nat) (l0 : List Nat) (rest : List Value) (a b : Nat) (hab : a ≤ b) (hbl : b ≤ l0.length) (hlen : l0.length ≤ 4611686018427387904) (W0 : World) (hr : Row W0 g l0 rest) :
    Calls Try.prog 72 #[.slice (some ⟨g, 0, none⟩) l0.length cap, .int .i64 a, .int .i64 b] W0 fun e W' => e = .returned (.tuple #[]) ∧ ∃ l', Hid (Row W' g l' rest) ∧ Hid (Turned a b l0 l' ∧ SortedOn l' a b) ∧ Hid (Kept1 W0 g W') := by
  replace hr := Lib.hid hr
  have hle := Lib.hid less_any
  go_enter Try.func72, Try.ntmps72
  go_wp2_with fail
  go_loopw [6] (fun v6 wr => ∃ (i : Nat) (l : List Nat), v6 = .int .i64 i ∧ a + 1 ≤ i ∧ (i ≤ b ∨ i = a + 1) ∧ Hid (Row wr g l rest) ∧ Hid (Turned a b l0 l ∧ SortedOn l a i) ∧ Hid (Kept1 W0 g wr)) (fun v6 _ => b - (intOf v6).toNat)
  case atStart => exact ⟨a + 1, l0, by go_num, Nat.le_refl _, .inr rfl, hr, Lib.hid ⟨Turned.refl _ _ _, fun p q h1 h2 h3 => by omega⟩, Lib.hid (Kept1.refl _ _)⟩
  case round =>
    obtain ⟨i, l, rfl, hi, hi2, hrow, hts, hk⟩ := hrel
    by_cases hlt : i < b
    · have hll := Lib.hid hts.out.1.len
      go_wp2_with fail
      go_loopw [7] (fun v7 wr => ∃ (j : Nat) (l : List Nat), v7 = .int .i64 j ∧ a ≤ j ∧ j ≤ i ∧ Hid (Row wr g l rest) ∧ Hid (Turned a b l0 l ∧ Hole l a i j) ∧ Hid (Kept1 W0 g wr)) (fun v7 _ => (intOf v7).toNat)
      case atStart => exact ⟨i, l, rfl, by omega, Nat.le_refl _, hrow, Lib.hid ⟨hts.out.1, Hole.start hts.out.2⟩, hk⟩
      case round =>
        clear hrow hts hk hll
        obtain ⟨j, l, rfl, haj, hji, hrow, hts, hk⟩ := hrel
        have hll := hts.out.1.len
        by_cases hj : a < j
        · obtain ⟨k, rfl⟩ : ∃ k, j = k + 1 := ⟨j - 1, by omega⟩
          have c1 := hrow.out.cell (k + 1) (by omega)
          have c0 := hrow.out.cell k (by omega)
          have f1 := hrow.out.free (k + 1)
          have f0 := hrow.out.free k
          have e1 : at_ l (k + 1) = l[k + 1] := at_lt (by omega)
          have e0 : at_ l k = l[k] := at_lt (by omega)
          rw [← e1] at c1
          rw [← e0] at c0
          have hsw := fun W (h : Row W g l rest) => (h.set (k + 1) (by omega) (at_ l k)).set k (by rw [List.length_set]; omega) (at_ l (k + 1))
          have hks := fun (W : World) (h : Kept1 W0 g W) => (h.set (k + 1) (.int .u64 (at_ l k))).set k (.int .u64 (at_ l (k + 1)))
          have hyes : at_ l (k + 1) < at_ l k → Turned a b l0 (swp l (k + 1) k) ∧ Hole (swp l (k + 1) k) a i k := fun h => ⟨hts.out.1.trans (Turned.swp l (k + 1) k ⟨by omega, by omega⟩ ⟨by omega, by omega⟩ (by omega)), by
            have := hts.out.2.step hj hji (by omega) (by simpa using h)
            simpa using this⟩
          have hno : ¬ at_ l (k + 1) < at_ l k → Turned a b l0 l ∧ SortedOn l a (i + 1) := fun h => ⟨hts.out.1, hts.out.2.done (.inr ⟨hj, by simpa using h⟩) haj⟩
          have hsw' : ∀ W, Row W g l rest → Row ((W.setCell ⟨g, k + 1, none⟩ (.int .u64 (at_ l k))).setCell ⟨g, k, none⟩ (.int .u64 (at_ l (k + 1)))) g (swp l (k + 1) k) rest := hsw
          clear hsw
          have hcmp := Lib.hid (fun n => hle.out (at_ l (k + 1)) (at_ l k) (wr.drewN n))
          have hi0 : (0 : Int) ≤ (k : Int) := by omega
          have hi1 : (k : Int) + 1 < (l0.length : Int) := by omega
          have hi2' : (k : Int) < (l0.length : Int) := by omega
          have hd : decide ((a : Int) < (k : Int) + 1) = true := by simp; omega
          clear e1 e0 hts
          generalize swp l (k + 1) k = ls at hsw' hyes
          generalize at_ l (k + 1) = x at c1 hsw' hks hyes hno hcmp
          generalize at_ l k = y at c0 hsw' hks hyes hno hcmp
          by_cases hxy : x < y
          · have hh := Lib.hid (hyes hxy)
            rw [decide_eq_true hxy] at hcmp
            replace hsw' := Lib.hid hsw'
            replace hks := Lib.hid hks
            clear hyes hno hxy
            go_wp2_with fail
            go_quiet ((go_at_call 78; exact Calls.quiet_of_same (hcmp.out _)))
            have hrow2 := Lib.hid (hrow.out.drewN nq)
            have hk2 := Lib.hid (hk.out.drewN nq)
            have c1 : (wr.drewN nq).cell? ⟨g, k + 1, none⟩ = some (.int .u64 x) := c1
            have c0 : (wr.drewN nq).cell? ⟨g, k, none⟩ = some (.int .u64 y) := c0
            have f1 : (wr.drewN nq).frozen? ⟨g, k + 1, none⟩ = false := f1
            have f0 : (wr.drewN nq).frozen? ⟨g, k, none⟩ = false := f0
            generalize wr.drewN nq = w2 at hrow2 hk2 c1 c0 f1 f0 ⊢
            go_wp2_with fail
            go_region
            have hrow3 := Lib.hid (hsw'.out w2 hrow2.out).drew
            have hk3 := Lib.hid ((hks.out w2 hk2.out).drewN 1)
            clear hrow hk hcmp hrow2 hk2 hsw' hks c1 c0 f1 f0
            generalize hW3 : ((w2.setCell ⟨g, k + 1, none⟩ (.int .u64 y)).setCell ⟨g, k, none⟩ (.int .u64 x)).drew = w3 at hrow3 ⊢
            have hk4 : Hid (Kept1 W0 g w3) := by rw [← hW3]; exact hk3
            clear hk3 hW3
            go_wp2_with fail
            go_roundw
            case rel => exact ⟨k, ls, rfl, by omega, by omega, hrow3, hh, hk4⟩
            case measure => simp [intOf] <;> omega
          · have hh := Lib.hid (hno hxy)
            rw [decide_eq_false hxy] at hcmp
            clear hyes hno hxy hsw' hks
            go_wp2_with fail
            go_quiet ((go_at_call 78; exact Calls.quiet_of_same (hcmp.out _)))
            have hrow2 := Lib.hid (hrow.out.drewN nq)
            have hk2 := Lib.hid (hk.out.drewN nq)
            generalize wr.drewN nq = w2 at hrow2 hk2 ⊢
            clear hcmp hrow hk c1 c0 f1 f0
            go_wp2_with fail
            go_roundw
            case rel => exact ⟨i + 1, l, by go_num, by omega, .inl (by omega), hrow2, hh, hk2⟩
            case measure => simp [intOf] <;> omega
        · obtain rfl : j = a := by omega
          have hh := Lib.hid (And.intro hts.out.1 (hts.out.2.done (.inl rfl) haj))
          have hd : decide ((j : Int) < (j : Int)) = false := by simp
          go_wp2_with fail
          go_quiet (fail)
          have hrow2 := Lib.hid (hrow.out.drewN nq)
          have hk2 := Lib.hid (hk.out.drewN nq)
          generalize wr.drewN nq = w2 at hrow2 hk2 ⊢
          clear hrow hk hts
          go_wp2_with fail
          go_roundw
          case rel => exact ⟨i + 1, l, by go_num, by omega, .inl (by omega), hrow2, hh, hk2⟩
          case measure => simp [intOf] <;> omega
    · have hh := Lib.hid (And.intro hts.out.1 (show SortedOn l a b from fun p q h1 h2 h3 => hts.out.2 p q h1 h2 (by omega)))
      go_wp2_with fail
      go_end0
      exact ⟨rfl, l, hrow, hh, hk⟩
end Go.Proofs.Ytcnebfmlelcliaa
