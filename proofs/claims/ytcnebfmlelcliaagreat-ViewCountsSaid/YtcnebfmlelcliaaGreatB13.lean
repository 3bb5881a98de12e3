/- store: walked. (written by tools/gen_MlZ.py) -/
import Derived.Test.YtcnebfmlelcliaaGreatB11
import Derived.Test.YtcnebfmlelcliaaGreatB12
namespace Go.Proofs.YtcnebfmlelcliaaGreat
set_option linter.unusedSimpArgs false
open Go.RowKit
attribute [local go_sem ↓] Go.wp_at_zero Go.wp_at_succ

set_option maxRecDepth 100000 in
set_option maxHeartbeats 16000000 in
theorem store_any {W0 W : World} {wb : Nat} {k : WkV} {m : Ml} {q : Rq} {y : RqV} {o : Oc} (hz : Zoo W0 W (workL wb k m q y o)) (hk : WkOk k m) (hs : Sized1 m) (hfs : ∀ b ∈ m.boxes, ∀ x ∈ b.letters, Sized x.flags) (hhb : ∀ b ∈ m.boxes, b.high ≤ 9223372036854775807) (hin : RqIn W0 q y) (hq : RqSz q) (ho : o.uids.length ≤ 10000) (hom : o.mods.length ≤ 10000) :
    Calls Tryz.prog 41 #[.pointer (some ⟨wb, 0, none⟩)] W (WkRet2 W0 wb q y (storeM m q o)) := by
  have hnamed := Lib.hid (named_any hz hk hs.boxes)
  clear hz
  go_enter Tryz.func41, Tryz.ntmps41
  go_wp2_with fail
  refine hnamed.out.mono ?_
  rintro e w3 ⟨hz3, hb3, hres⟩
  clear hnamed hb3
  rcases namedI_cases m q with hn | ⟨i, hn, hi⟩
  · rw [hn] at hres
    dsimp only at hres
    subst hres
    have hr : Hid (storeM m q o = (6, m, o)) := Lib.hid (by unfold storeM; rw [hn])
    replace hk := Lib.hid hk
    clear hn hs hin hq ho hom hfs hhb
    go_wp2_with fail
    go_ret
    exact WkRet2.of hr.out (fun _ => rfl) ⟨k, rfl, hk, hz3⟩
  · rw [hn] at hres
    dsimp only at hres
    obtain ⟨g, hg, rfl⟩ := hres
    have hil : i < k.bs.length := by rw [hk.len]; exact hi
    have hgm := hk.get hil
    obtain ⟨x, hx⟩ : ∃ x, k.bs[i] = x := ⟨_, rfl⟩
    rw [hx] at hgm
    have hxm : x ∈ k.bs := by rw [← hx]; exact List.getElem_mem hil
    have hxb : x.b ∈ m.boxes := List.mem_of_getElem? hgm
    have hxl : x.rows.length ≤ 10000 := by have := hs.letters _ hxb; rwa [bx_len] at this
    have hxf : Hid (∀ z ∈ x.rows, z.x.flags.length ≤ 10000) := Lib.hid (fun z hz => hs.flags _ hxb z.x (List.mem_map_of_mem (f := LtV.x) hz))
    have hxz : Hid (∀ z ∈ x.rows, Sized z.x.flags) := Lib.hid (fun z hz => hfs _ hxb z.x (List.mem_map_of_mem (f := LtV.x) hz))
    have hxh : x.high ≤ 9223372036854775807 := hhb _ hxb
    have hr0 : Hid (storeM m q o = (if rightB q.flags = false ∨ q.how < 0 ∨ 2 < q.how then (1, m, o)
      else if (x.rows.map LtV.x).any (stFails (x.rows.map LtV.x) q) then (7, m, o)
      else if (x.rows.map LtV.x).any (stTurns (x.rows.map LtV.x) q) = false then (0, m, storeO (x.rows.map LtV.x) q o x.rows.length)
      else if 9223372036854775807 ≤ x.high then (13, m, o)
      else (0, setM m i { x.b with high := x.high + 1, letters := (x.rows.map LtV.x).map (stNew (x.rows.map LtV.x) q x.high) }, storeO (x.rows.map LtV.x) q o x.rows.length))) := Lib.hid (by
        unfold storeM; rw [hn]; dsimp only; rw [hgm]; dsimp only; rw [bx_len]; rfl)
    obtain ⟨hbx, -⟩ := hz3.out.box 0 rfl
    have k16 : w3.cell? ⟨wb, 16, none⟩ = some (.slice y.af q.flags.length y.cf) := box_cell hbx 16
    have k17 : w3.cell? ⟨wb, 17, none⟩ = some (.int .i64 q.how) := box_cell hbx 17
    have hright := Lib.hid (right_any _ q.flags w3 (Rd.below hin.2 hz3.out.bel) (by have := hq.fl; omega) hq.sz)
    replace hk := Lib.hid hk
    replace hg := Lib.hid hg
    replace hx := Lib.hid hx
    replace hxm := Lib.hid hxm
    replace hin := Lib.hid hin
    replace hq := Lib.hid hq
    clear hn hs hgm hxb hi hfs hbx hhb
    go_wp2_with fail
    refine hright.out.mono ?_
    rintro e w4 ⟨rfl, hb4⟩
    have hz4 := hz3.out.below hb4.out
    obtain ⟨hbx, -⟩ := hz4.box 0 rfl
    clear k16 k17 hright hz3 hb4
    have k16 : w4.cell? ⟨wb, 16, none⟩ = some (.slice y.af q.flags.length y.cf) := box_cell hbx 16
    have k17 : w4.cell? ⟨wb, 17, none⟩ = some (.int .i64 q.how) := box_cell hbx 17
    obtain ⟨g', hg', hglt, hbox, hfr⟩ := work_box hz4 rfl hil
    obtain rfl : g = g' := by have h := hg.out.symm.trans hg'; injection h with h; injection h
    have hrow := work_let0 (wb := wb) (m := m) (q := q) (y := y) (o := o) i hil
    have hrd := (hz4.own (i + 7) hrow).rd
    rw [hx.out] at hbox hrd
    have b4 := hbox.c4
    have hclone := Lib.hid (cloneLt_any hrd (by omega))
    unfold BxV.v at hclone
    clear hbx hg' hbox hfr hrow hrd
    cases hrb : rightB q.flags with
    | false =>
      have hr : Hid (storeM m q o = (1, m, o)) := Lib.hid (by rw [hr0.out, if_pos (.inl hrb)])
      replace hz4 := Lib.hid hz4
      clear hr0 hrb
      go_wp2_with fail
      go_ret
      exact WkRet2.of hr.out (fun _ => rfl) ⟨k, rfl, hk, hz4⟩
    | true =>
      by_cases hlo : q.how < 0
      · have hr : Hid (storeM m q o = (1, m, o)) := Lib.hid (by rw [hr0.out, if_pos (.inr (.inl hlo))])
        replace hz4 := Lib.hid hz4
        clear hr0 hrb
        go_wp2_with fail
        go_ret
        exact WkRet2.of hr.out (fun _ => rfl) ⟨k, rfl, hk, hz4⟩
      · have hlo' : decide (q.how < 0) = false := decide_eq_false hlo
        by_cases hhi : 2 < q.how
        · have hr : Hid (storeM m q o = (1, m, o)) := Lib.hid (by rw [hr0.out, if_pos (.inr (.inr hhi))])
          replace hz4 := Lib.hid hz4
          clear hr0 hrb hlo
          go_wp2_with fail
          go_ret
          exact WkRet2.of hr.out (fun _ => rfl) ⟨k, rfl, hk, hz4⟩
        · have hhi' : decide (2 < q.how) = false := decide_eq_false hhi
          have hgo : Hid (¬ (rightB q.flags = false ∨ q.how < 0 ∨ 2 < q.how)) := Lib.hid (by rw [hrb]; simp only [reduceCtorEq, false_or, not_or]; exact ⟨hlo, hhi⟩)
          rw [if_neg hgo.out] at hr0
          have hz4h := Lib.hid hz4
          clear hrb hlo hhi hz4
          go_wp2_with fail
          refine hclone.out.mono ?_
          rintro e w5 ⟨v5, rfl, ho5, hb5, hf5⟩
          have hz5 := hz4h.out.newRow (R := ltT) hb5.out ho5.out hf5.out
          obtain ⟨a5, c5, hv5⟩ := ho5.out.len
          subst hv5
          obtain ⟨g', hg', hglt, hbox, hfr⟩ := work_box hz5.tail rfl hil
          obtain rfl : g = g' := by have h := hg.out.symm.trans hg'; injection h with h; injection h
          have hrow := work_let0 (wb := wb) (m := m) (q := q) (y := y) (o := o) i hil
          have hrd := (hz5.tail.own (i + 7) hrow).rd
          rw [hx.out] at hbox hrd
          have hmeant := Lib.hid (meant_any (wb := wb) (g := g) (i := i) hbox.c4 hrd (by omega))
          replace hz5 := Lib.hid hz5
          clear hclone hz4h hb5 ho5 hf5 b4 k16 k17 hlo' hhi' hg' hbox hfr hrow hrd
          go_wp2_with fail
          refine hmeant.out.mono ?_
          rintro e w6 ⟨c, d, rfl, hcd, hb6⟩
          have hz6 := (hz5.out.cap hcd.out hb6.out).swap
          obtain ⟨g', hg', -, hbox, hfr⟩ := work_box hz6.tail.tail rfl hil
          obtain rfl : g = g' := by have h := hg.out.symm.trans hg'; injection h with h; injection h
          rw [hx.out] at hbox
          have b4 := hbox.c4
          rcases Nat.eq_zero_or_pos x.rows.length with h00 | hpos
          · have e0 : x.rows = [] := List.eq_nil_of_length_eq_zero h00
            have hr : Hid (storeM m q o = (0, m, o)) := Lib.hid (by
              rw [hr0.out, e0]
              have e : storeO ([].map LtV.x) q o ([] : List LtV).length = o := by simp [storeO, doneL, heldL]
              rw [e]
              rfl)
            rw [h00] at b4
            replace hz6 := Lib.hid hz6.tail.tail
            clear hmeant hz5 hcd hb6 hg' hbox hfr hr0 e0
            go_wp2_with fail
            go_loopw [55, 6] (fun v55 v6 wr => v55 = .int .i64 0 ∧ v6 = .bool false ∧ Hid (Zoo W0 wr (workL wb k m q y o))) (fun v55 _ _ => 0)
            case atStart => exact ⟨rfl, rfl, hz6⟩
            case round =>
              obtain ⟨rfl, rfl, hz⟩ := hrel
              go_wp2_with fail
              go_ret
              exact WkRet2.of hr.out (fun _ => rfl) ⟨k, rfl, hk, hz⟩
          obtain ⟨gn, capn, hv5, -, -, -⟩ := (hz6.own 0 rfl).cells hpos
          injection hv5 with hv5 hv5b hv5c
          subst hv5
          clear hv5b hv5c capn
          have hst0 : Hid (StSt (x.rows.map LtV.x) q x.high k.S k.S x.rows false 0) := Lib.hid (StSt.start rfl (hk.out.2 x hxm.out))
          replace hz6 : Hid (Zoo W0 w6 (ltT.row (.slice (some ⟨gn, 0, none⟩) x.rows.length c5) x.rows :: capT c d wb (mostB (x.rows.map LtV.x)) :: workL wb { k with aU := k.aU, cU := k.cU, aM := k.aM, cM := k.cM, S := k.S } m q y (storeO (x.rows.map LtV.x) q o 0))) := Lib.hid (by
            have e : storeO (x.rows.map LtV.x) q o 0 = o := by simp [storeO, doneL, heldL]
            rw [e]
            exact hz6)
          clear hmeant hz5 hcd hb6 hg' hbox hfr
          go_wp2_with fail
          go_loopw [55, 6] (fun v55 v6 wr => ∃ (j : Nat) (ch : Bool) (aU : Option Addr) (cU : Nat) (aM : Option Addr) (cM : Nat) (S : List (Value × List (List UInt8))) (nx : List LtV), v55 = .int .i64 j ∧ v6 = .bool ch ∧ j ≤ x.rows.length ∧ Hid (StSt (x.rows.map LtV.x) q x.high k.S S nx ch j) ∧ Hid (Zoo W0 wr (ltT.row (.slice (some ⟨gn, 0, none⟩) x.rows.length c5) nx :: capT c d wb (mostB (x.rows.map LtV.x)) :: workL wb { k with aU := aU, cU := cU, aM := aM, cM := cM, S := S } m q y (storeO (x.rows.map LtV.x) q o j)))) (fun v55 _ _ => x.rows.length - (intOf v55).toNat)
          case atStart => exact ⟨0, false, k.aU, k.cU, k.aM, k.cM, k.S, x.rows, rfl, rfl, Nat.zero_le _, hst0, hz6⟩
          case round =>
            clear hz6 b4 hst0
            obtain ⟨j, ch, aU, cU, aM, cM, S, nx, rfl, rfl, hj, hst, hz⟩ := hrel
            by_cases hlt : j < x.rows.length
            · have hrow := work_let0 (wb := wb) (k := { k with aU := aU, cU := cU, aM := aM, cM := cM, S := S }) (m := m) (q := q) (y := y) (o := storeO (x.rows.map LtV.x) q o j) i hil
              rw [show ({ k with aU := aU, cU := cU, aM := aM, cM := cM, S := S } : WkV).bs[i] = x from hx.out] at hrow
              obtain ⟨gl, cap', hv, -, hgl, hcells⟩ := (hz.out.own (i + 9) hrow).cells hlt
              injection hv with hv1 hv2 hv3
              obtain ⟨z, hzx⟩ : ∃ z, x.rows[j] = z := ⟨_, rfl⟩
              rw [hzx] at hcells
              have r0 : wr.cell? ⟨gl, j * 5, none⟩ = some (.int .u64 z.x.uid) := hcells 0 (by decide)
              have r1 : wr.cell? ⟨gl, j * 5 + 1, none⟩ = some (.slice z.a z.x.flags.length z.c) := hcells 1 (by decide)
              have r2 : wr.cell? ⟨gl, j * 5 + 2, none⟩ = some (.int .u64 z.x.mod) := hcells 2 (by decide)
              have r3 : wr.cell? ⟨gl, j * 5 + 3, none⟩ = some (.string z.x.hash) := hcells 3 (by decide)
              have r4 : wr.cell? ⟨gl, j * 5 + 4, none⟩ = some (.int .u64 z.x.size) := hcells 4 (by decide)
              have hzm : z ∈ x.rows := by rw [← hzx]; exact List.getElem_mem hlt
              have hzb := hz.out.newBox [.int .u64 z.x.uid, .slice z.a z.x.flags.length z.c, .int .u64 z.x.mod, .string z.x.hash, .int .u64 z.x.size].toArray 66
              have hcall := meant1_any z c d wb q.uids y.au y.cu (mostB (x.rows.map LtV.x)) (hzb.capOf 2 rfl).1 (box_cell (hzb.box 3 rfl).1 15) (hzb.capOf 2 rfl).2 (RqIn.below hin.out hzb.bel).1 hq.out.ul
              replace hcall : Calls Tryz.prog 100 #[.agg #[.int .u64 z.x.uid, .slice z.a z.x.flags.length z.c, .int .u64 z.x.mod, .string z.x.hash, .int .u64 z.x.size], .pointer (some ⟨c, 0, none⟩), .pointer (some ⟨d, 0, none⟩)] (wr.alloc (.cells #[.int .u64 z.x.uid, .slice z.a z.x.flags.length z.c, .int .u64 z.x.mod, .string z.x.hash, .int .u64 z.x.size] 66)) fun e w' => e = .returned (.bool (meantB (x.rows.map LtV.x) q z.x)) ∧ Hid (Below (wr.alloc (.cells #[.int .u64 z.x.uid, .slice z.a z.x.flags.length z.c, .int .u64 z.x.mod, .string z.x.hash, .int .u64 z.x.size] 66)).heap.size (wr.alloc (.cells #[.int .u64 z.x.uid, .slice z.a z.x.flags.length z.c, .int .u64 z.x.mod, .string z.x.hash, .int .u64 z.x.size] 66)) w') := hcall
              have hl1 : (j : Int) < (x.rows.length : Int) := by omega
              have hlm : Hid (j < (x.rows.map LtV.x).length) := Lib.hid (by rw [List.length_map]; exact hlt)
              have hzj : Hid ((x.rows.map LtV.x)[j]'hlm.out = z.x) := Lib.hid (by rw [List.getElem_map, hzx])
              have hzf := Lib.hid (hxf.out z hzm)
              have hzz := Lib.hid (hxz.out z hzm)
              have hzS : Hid ((z.v, z.x.flags) ∈ S) := Lib.hid (hst.out.sub _ (hk.out.2 x hxm.out z hzm))
              replace hcall := Lib.hid hcall
              replace hzb := Lib.hid hzb
              clear hcells hrow hzx hzm hv2 hv3 hz
              go_wp2_with fail
              refine hcall.out.mono ?_
              rintro e w1 ⟨rfl, hb1⟩
              have hz2 := hzb.out.below hb1.out
              generalize hB : wr.heap.size = Lb at hz2 ⊢
              clear r0 r1 r2 r3 r4 hb1 hzb hcall hB
              cases hgz : meantB (x.rows.map LtV.x) q z.x with
              | false =>
                have hd : stDone (x.rows.map LtV.x) q z.x = false := by unfold stDone; rw [hgz]; rfl
                have hh : stHeld (x.rows.map LtV.x) q z.x = false := by unfold stHeld; rw [hgz]; rfl
                have e : Hid (storeO (x.rows.map LtV.x) q o (j + 1) = storeO (x.rows.map LtV.x) q o j) := Lib.hid (by
                  unfold storeO
                  rw [doneL_no hlm.out (by rw [hzj.out]; exact hd), heldL_no hlm.out (by rw [hzj.out]; exact hh)])
                have hst2 := Lib.hid (hst.out.skip hlm.out (by rw [hzj.out]; unfold stTurns; rw [hd]; rfl) (by rw [hzj.out]; unfold stFails; rw [hd]; rfl))
                have hz3 := Lib.hid hz2.tail
                clear hgz hz2 hv1 hd hh hst hzj hlm
                go_wp2_with fail
                go_roundw
                case rel => exact ⟨j + 1, ch, aU, cU, aM, cM, S, nx, by go_num, rfl, by omega, hst2, Lib.hid (by rw [e.out]; exact hz3.out)⟩
                case measure => simp [intOf] <;> omega
              | true =>
                obtain ⟨hbx, -⟩ := hz2.box 3 rfl
                have k18 : w1.cell? ⟨wb, 18, none⟩ = some (.bool q.has) := box_cell hbx 18
                have k19 : w1.cell? ⟨wb, 19, none⟩ = some (.int .u64 q.since) := box_cell hbx 19
                have l2 : w1.cell? ⟨Lb, 2, none⟩ = some (.int .u64 z.x.mod) := box_cell (hz2.box 0 rfl).1 2
                replace hz2 := Lib.hid hz2
                clear hbx hv1
                obtain ⟨H, hH⟩ : ∃ H, (q.has && decide (q.since < z.x.mod)) = H := ⟨_, rfl⟩
                have hd : Hid (stDone (x.rows.map LtV.x) q z.x = !H) := Lib.hid (by unfold stDone; rw [hgz, hH]; rfl)
                have hh : Hid (stHeld (x.rows.map LtV.x) q z.x = H) := Lib.hid (by unfold stHeld; rw [hgz, hH]; rfl)
                replace hgz := Lib.hid hgz
                go_wp2_with fail
                go_cut [65] (fun v65 wx => v65 = .bool H ∧ Hid (Zoo W0 wx (boxT Lb [.int .u64 z.x.uid, .slice z.a z.x.flags.length z.c, .int .u64 z.x.mod, .string z.x.hash, .int .u64 z.x.size].toArray 66 :: ltT.row (.slice (some ⟨gn, 0, none⟩) x.rows.length c5) nx :: capT c d wb (mostB (x.rows.map LtV.x)) :: workL wb { k with aU := aU, cU := cU, aM := aM, cM := cM, S := S } m q y (storeO (x.rows.map LtV.x) q o j))))
                case first =>
                  cases hq1 : q.has with
                  | false =>
                    rw [hq1] at k18 hH
                    replace hH := Lib.hid hH
                    clear hq1
                    go_quiet (fail)
                    go_wp2_with fail
                    go_meet
                    case rel => exact ⟨by rw [← hH.out]; rfl, Lib.hid (hz2.out.below (below_drewN (Below.refl _ _) nq))⟩
                  | true =>
                    rw [hq1] at k18 hH
                    replace hH := Lib.hid hH
                    clear hq1
                    go_quiet (fail)
                    go_wp2_with fail
                    go_meet
                    case rel => exact ⟨by rw [← hH.out]; simp, Lib.hid (hz2.out.below (below_drewN (Below.refl _ _) nq))⟩
                case rest =>
                  clear hz2 k18 k19 l2 hH hgz
                  obtain ⟨rfl, hz2⟩ := hcut
                  obtain ⟨us, hus⟩ : ∃ us, o.uids ++ doneL (x.rows.map LtV.x) q j = us := ⟨_, rfl⟩
                  obtain ⟨ms, hms⟩ : ∃ ms, o.mods ++ heldL (x.rows.map LtV.x) q j = ms := ⟨_, rfl⟩
                  have hlen : Hid (us.length ≤ 20000) := Lib.hid (by
                    have := doneL_len (x.rows.map LtV.x) q j
                    rw [List.length_map] at this
                    rw [← hus, List.length_append]; omega)
                  have hlenM : Hid (ms.length ≤ 20000) := Lib.hid (by
                    have := heldL_len (x.rows.map LtV.x) q j
                    rw [List.length_map] at this
                    rw [← hms, List.length_append]; omega)
                  have heO : storeO (x.rows.map LtV.x) q o j = { o with uids := us, mods := ms } := by unfold storeO; rw [hus, hms]
                  rw [heO] at hz2
                  replace hus := Lib.hid hus
                  replace hms := Lib.hid hms
                  clear heO
                  cases H with
                  | true =>
                    have e : Hid (storeO (x.rows.map LtV.x) q o (j + 1) = { o with uids := us, mods := ms ++ [z.x.uid] }) := Lib.hid (by
                      unfold storeO
                      rw [doneL_no hlm.out (by rw [hzj.out, hd.out]; rfl), heldL_yes hlm.out (by rw [hzj.out, hh.out]), hzj.out, ← List.append_assoc, hus.out, hms.out])
                    have hst2 := Lib.hid (hst.out.skip hlm.out (by rw [hzj.out]; unfold stTurns; rw [hd.out]; rfl) (by rw [hzj.out]; unfold stFails; rw [hd.out]; rfl))
                    clear hst hd hh hus hms hzj hlm
                    go_wp2_with fail
                    have hzd := hz2.out.drew
                    have s26 : wc.drew.cell? ⟨wb, 27, none⟩ = some (.slice aM ms.length cM) := box_cell (hzd.box 3 rfl).1 27
                    have sL : wc.drew.cell? ⟨Lb, 0, none⟩ = some (.int .u64 z.x.uid) := box_cell (hzd.box 0 rfl).1 0
                    refine wp_region_hd (fun w' => w'.cell? ⟨wb, 27, none⟩ = some (.slice aM ms.length cM) ∧ w'.cell? ⟨Lb, 0, none⟩ = some (.int .u64 z.x.uid)) 10 4 (by kernel_rfl) rfl ⟨by kernel_rfl, by kernel_rfl, by kernel_rfl, by decide⟩ ⟨s26, sL⟩ (fun hok hS0 => ?_)
                    generalize wc.drew = Wd at *
                    refine Hd.take (i := 0) (v := ?tv140) hok rfl (by kernel_rfl) (fun _ _ _ h => h) (Or.inl ⟨by rfl, ?ty140⟩) (by assumption) ?tr140
                    case ty140 => (intro w hSw; (try dsimp only at hSw); go_simp; (try with_reducible rfl))
                    try simp only [List.getElem_toArray, List.getElem_cons_succ, List.getElem_cons_zero, Act.put, List.setIfInBounds_toArray, List.set_cons_zero, List.set_cons_succ]
                    refine Hd.take (i := 1) (v := ?tv141) hok rfl (by kernel_rfl) (fun _ _ _ h => h) (Or.inl ⟨by rfl, ?ty141⟩) (by assumption) ?tr141
                    case ty141 => (intro w hSw; (try dsimp only at hSw); go_simp; (try with_reducible rfl))
                    try simp only [List.getElem_toArray, List.getElem_cons_succ, List.getElem_cons_zero, Act.put, List.setIfInBounds_toArray, List.set_cons_zero, List.set_cons_succ]
                    refine Hd.take (i := 2) (v := ?tv142) hok rfl (by kernel_rfl) (fun _ _ _ h => h) (Or.inl ⟨by rfl, ?ty142⟩) (by assumption) ?tr142
                    case ty142 => (intro w hSw; (try dsimp only at hSw); go_simp; (try with_reducible rfl))
                    try simp only [List.getElem_toArray, List.getElem_cons_succ, List.getElem_cons_zero, Act.put, List.setIfInBounds_toArray, List.set_cons_zero, List.set_cons_succ]
                    refine Hd.take (i := 3) (v := ?tv143) hok rfl (by kernel_rfl) (fun _ _ _ h => h) (Or.inl ⟨by rfl, ?ty143⟩) (by assumption) ?tr143
                    case ty143 => (intro w hSw; (try dsimp only at hSw); go_simp; (try with_reducible rfl))
                    try simp only [List.getElem_toArray, List.getElem_cons_succ, List.getElem_cons_zero, Act.put, List.setIfInBounds_toArray, List.set_cons_zero, List.set_cons_succ]
                    refine Hd.take (i := 4) (v := ?tv144) hok rfl (by kernel_rfl) (fun _ _ _ h => h) (Or.inl ⟨by rfl, ?ty144⟩) (by assumption) ?tr144
                    case ty144 => (intro w hSw; (try dsimp only at hSw); go_simp; (try with_reducible rfl))
                    try simp only [List.getElem_toArray, List.getElem_cons_succ, List.getElem_cons_zero, Act.put, List.setIfInBounds_toArray, List.set_cons_zero, List.set_cons_succ]
                    refine Hd.take (i := 5) (v := ?tv145) hok rfl (by kernel_rfl) (fun _ _ _ h => h) (Or.inl ⟨by rfl, ?ty145⟩) (by assumption) ?tr145
                    case ty145 => (intro w hSw; (try dsimp only at hSw); go_simp; (try with_reducible rfl))
                    try simp only [List.getElem_toArray, List.getElem_cons_succ, List.getElem_cons_zero, Act.put, List.setIfInBounds_toArray, List.set_cons_zero, List.set_cons_succ]
                    refine Hd.take (i := 6) (v := ?tv146) hok rfl (by kernel_rfl) (fun _ _ _ h => h) (Or.inl ⟨by rfl, ?ty146⟩) (by assumption) ?tr146
                    case ty146 => (intro w hSw; (try dsimp only at hSw); go_simp; (try with_reducible rfl))
                    try simp only [List.getElem_toArray, List.getElem_cons_succ, List.getElem_cons_zero, Act.put, List.setIfInBounds_toArray, List.set_cons_zero, List.set_cons_succ]
                    refine Hd.take (i := 7) (v := ?tv147) hok rfl (by kernel_rfl) (fun _ _ _ h => h) (Or.inl ⟨by rfl, ?ty147⟩) (by assumption) ?tr147
                    case ty147 => (intro w hSw; (try dsimp only at hSw); go_simp; (try with_reducible rfl))
                    try simp only [List.getElem_toArray, List.getElem_cons_succ, List.getElem_cons_zero, Act.put, List.setIfInBounds_toArray, List.set_cons_zero, List.set_cons_succ]
                    refine Hd.one (i := 8) rfl (by kernel_rfl) (fun K hK => ?_)
                    go_simp
                    have hzA := hzd.alloc (.cells (u64T.enc z.x.uid).toArray 23)
                    refine hK _ _ ⟨cell_old _ s26, cell_old _ sL⟩ ?_
                    clear hK K
                    try simp only [List.getElem_toArray, List.getElem_cons_succ, List.getElem_cons_zero, Act.put, List.setIfInBounds_toArray, List.set_cons_zero, List.set_cons_succ]
                    refine Hd.one (i := 9) rfl (by kernel_rfl) (fun K hK => ?_)
                    have hown1 := RT.Own.one u64T Wd z.x.uid Wd.heap.size rfl
                    obtain ⟨F, ⟨ho1, hF⟩, -, hact⟩ := hzA.act 5 (u64T.row (.slice aM ms.length cM) ms) rfl
                    refine u64T.step_append rfl (.tmp 86) (.tmp 89) rfl _ _ ms [z.x.uid] rfl rfl ho1 hown1.rd (by rw [List.length_singleton]; have := hlenM.out; omega) ?_
                    intro v8 w8 ho8 hg8 hat8
                    have hz8 := hact (u64T.row v8 (ms ++ [z.x.uid])) (fun k => v8.ownBlock = some k) w8 ⟨ho8, fun _ => Iff.rfl⟩ (grows_row hF hg8 hat8)
                    obtain ⟨a8, c8, hv8⟩ := ho8.len
                    subst hv8
                    have t26 : w8.cell? ⟨wb, 27, none⟩ = some (.slice aM ms.length cM) := box_cell (hz8.box 3 rfl).1 27
                    have tL : w8.cell? ⟨Lb, 0, none⟩ = some (.int .u64 z.x.uid) := box_cell (hz8.box 0 rfl).1 0
                    have f26 := box_free (hz8.box 3 rfl).1 27
                    refine hK _ _ ⟨t26, tL⟩ ?_
                    clear hK K
                    try simp only [List.getElem_toArray, List.getElem_cons_succ, List.getElem_cons_zero, Act.put, List.setIfInBounds_toArray, List.set_cons_zero, List.set_cons_succ]
                    refine Hd.done (by kernel_rfl) ?_
                    simp only [List.drop_succ_cons, List.drop_zero]
                    have hz9 := hz8.setBox 3 rfl 27 (.slice a8 (ms ++ [z.x.uid]).length c8)
                    replace hz9 : Hid (Zoo W0 (w8.setCell ⟨wb, 27, none⟩ (.slice a8 (ms ++ [z.x.uid]).length c8)) (ltT.row (.slice (some ⟨gn, 0, none⟩) x.rows.length c5) nx :: capT c d wb (mostB (x.rows.map LtV.x)) :: workL wb { k with aU := aU, cU := cU, aM := a8, cM := c8, S := S } m q y { o with uids := us, mods := ms ++ [z.x.uid] })) := Lib.hid hz9.tail
                    rw [← e.out] at hz9
                    generalize (ms ++ [z.x.uid]).length = n8 at *
                    clear hz8 hact ho8 hg8 hat8 ho1 hF hown1 hzA hzd s26 sL hok hS0
                    go_wp2_with fail
                    go_roundw
                    case rel => exact ⟨j + 1, ch, aU, cU, a8, c8, S, nx, by go_num, rfl, by omega, hst2, hz9⟩
                    case measure => simp [intOf] <;> omega
                  | false =>
                    have e : Hid (storeO (x.rows.map LtV.x) q o (j + 1) = { o with uids := us ++ [z.x.uid], mods := ms }) := Lib.hid (by
                      unfold storeO
                      rw [doneL_yes hlm.out (by rw [hzj.out, hd.out]; rfl), heldL_no hlm.out (by rw [hzj.out, hh.out]), hzj.out, ← List.append_assoc, hus.out, hms.out])
                    clear hh hus hms
                    go_wp2_with fail
                    have hzd := hz2.out.drew
                    have s26 : wc.drew.cell? ⟨wb, 26, none⟩ = some (.slice aU us.length cU) := box_cell (hzd.box 3 rfl).1 26
                    have sL : wc.drew.cell? ⟨Lb, 0, none⟩ = some (.int .u64 z.x.uid) := box_cell (hzd.box 0 rfl).1 0
                    refine wp_region_hd (fun w' => w'.cell? ⟨wb, 26, none⟩ = some (.slice aU us.length cU) ∧ w'.cell? ⟨Lb, 0, none⟩ = some (.int .u64 z.x.uid)) 10 4 (by kernel_rfl) rfl ⟨by kernel_rfl, by kernel_rfl, by kernel_rfl, by decide⟩ ⟨s26, sL⟩ (fun hok hS0 => ?_)
                    generalize wc.drew = Wd at *
                    refine Hd.take (i := 0) (v := ?tv148) hok rfl (by kernel_rfl) (fun _ _ _ h => h) (Or.inl ⟨by rfl, ?ty148⟩) (by assumption) ?tr148
                    case ty148 => (intro w hSw; (try dsimp only at hSw); go_simp; (try with_reducible rfl))
                    try simp only [List.getElem_toArray, List.getElem_cons_succ, List.getElem_cons_zero, Act.put, List.setIfInBounds_toArray, List.set_cons_zero, List.set_cons_succ]
                    refine Hd.take (i := 1) (v := ?tv149) hok rfl (by kernel_rfl) (fun _ _ _ h => h) (Or.inl ⟨by rfl, ?ty149⟩) (by assumption) ?tr149
                    case ty149 => (intro w hSw; (try dsimp only at hSw); go_simp; (try with_reducible rfl))
                    try simp only [List.getElem_toArray, List.getElem_cons_succ, List.getElem_cons_zero, Act.put, List.setIfInBounds_toArray, List.set_cons_zero, List.set_cons_succ]
                    refine Hd.take (i := 2) (v := ?tv150) hok rfl (by kernel_rfl) (fun _ _ _ h => h) (Or.inl ⟨by rfl, ?ty150⟩) (by assumption) ?tr150
                    case ty150 => (intro w hSw; (try dsimp only at hSw); go_simp; (try with_reducible rfl))
                    try simp only [List.getElem_toArray, List.getElem_cons_succ, List.getElem_cons_zero, Act.put, List.setIfInBounds_toArray, List.set_cons_zero, List.set_cons_succ]
                    refine Hd.take (i := 3) (v := ?tv151) hok rfl (by kernel_rfl) (fun _ _ _ h => h) (Or.inl ⟨by rfl, ?ty151⟩) (by assumption) ?tr151
                    case ty151 => (intro w hSw; (try dsimp only at hSw); go_simp; (try with_reducible rfl))
                    try simp only [List.getElem_toArray, List.getElem_cons_succ, List.getElem_cons_zero, Act.put, List.setIfInBounds_toArray, List.set_cons_zero, List.set_cons_succ]
                    refine Hd.take (i := 4) (v := ?tv152) hok rfl (by kernel_rfl) (fun _ _ _ h => h) (Or.inl ⟨by rfl, ?ty152⟩) (by assumption) ?tr152
                    case ty152 => (intro w hSw; (try dsimp only at hSw); go_simp; (try with_reducible rfl))
                    try simp only [List.getElem_toArray, List.getElem_cons_succ, List.getElem_cons_zero, Act.put, List.setIfInBounds_toArray, List.set_cons_zero, List.set_cons_succ]
                    refine Hd.take (i := 5) (v := ?tv153) hok rfl (by kernel_rfl) (fun _ _ _ h => h) (Or.inl ⟨by rfl, ?ty153⟩) (by assumption) ?tr153
                    case ty153 => (intro w hSw; (try dsimp only at hSw); go_simp; (try with_reducible rfl))
                    try simp only [List.getElem_toArray, List.getElem_cons_succ, List.getElem_cons_zero, Act.put, List.setIfInBounds_toArray, List.set_cons_zero, List.set_cons_succ]
                    refine Hd.take (i := 6) (v := ?tv154) hok rfl (by kernel_rfl) (fun _ _ _ h => h) (Or.inl ⟨by rfl, ?ty154⟩) (by assumption) ?tr154
                    case ty154 => (intro w hSw; (try dsimp only at hSw); go_simp; (try with_reducible rfl))
                    try simp only [List.getElem_toArray, List.getElem_cons_succ, List.getElem_cons_zero, Act.put, List.setIfInBounds_toArray, List.set_cons_zero, List.set_cons_succ]
                    refine Hd.take (i := 7) (v := ?tv155) hok rfl (by kernel_rfl) (fun _ _ _ h => h) (Or.inl ⟨by rfl, ?ty155⟩) (by assumption) ?tr155
                    case ty155 => (intro w hSw; (try dsimp only at hSw); go_simp; (try with_reducible rfl))
                    try simp only [List.getElem_toArray, List.getElem_cons_succ, List.getElem_cons_zero, Act.put, List.setIfInBounds_toArray, List.set_cons_zero, List.set_cons_succ]
                    refine Hd.one (i := 8) rfl (by kernel_rfl) (fun K hK => ?_)
                    go_simp
                    have hzA := hzd.alloc (.cells (u64T.enc z.x.uid).toArray 23)
                    refine hK _ _ ⟨cell_old _ s26, cell_old _ sL⟩ ?_
                    clear hK K
                    try simp only [List.getElem_toArray, List.getElem_cons_succ, List.getElem_cons_zero, Act.put, List.setIfInBounds_toArray, List.set_cons_zero, List.set_cons_succ]
                    refine Hd.one (i := 9) rfl (by kernel_rfl) (fun K hK => ?_)
                    have hown1 := RT.Own.one u64T Wd z.x.uid Wd.heap.size rfl
                    obtain ⟨F, ⟨ho1, hF⟩, -, hact⟩ := hzA.act 4 (u64T.row (.slice aU us.length cU) us) rfl
                    refine u64T.step_append rfl (.tmp 99) (.tmp 102) rfl _ _ us [z.x.uid] rfl rfl ho1 hown1.rd (by rw [List.length_singleton]; have := hlen.out; omega) ?_
                    intro v8 w8 ho8 hg8 hat8
                    have hz8 := hact (u64T.row v8 (us ++ [z.x.uid])) (fun k => v8.ownBlock = some k) w8 ⟨ho8, fun _ => Iff.rfl⟩ (grows_row hF hg8 hat8)
                    obtain ⟨a8, c8, hv8⟩ := ho8.len
                    subst hv8
                    have t26 : w8.cell? ⟨wb, 26, none⟩ = some (.slice aU us.length cU) := box_cell (hz8.box 3 rfl).1 26
                    have tL : w8.cell? ⟨Lb, 0, none⟩ = some (.int .u64 z.x.uid) := box_cell (hz8.box 0 rfl).1 0
                    have f26 := box_free (hz8.box 3 rfl).1 26
                    refine hK _ _ ⟨t26, tL⟩ ?_
                    clear hK K
                    try simp only [List.getElem_toArray, List.getElem_cons_succ, List.getElem_cons_zero, Act.put, List.setIfInBounds_toArray, List.set_cons_zero, List.set_cons_succ]
                    refine Hd.done (by kernel_rfl) ?_
                    simp only [List.drop_succ_cons, List.drop_zero]
                    have hz9 := hz8.setBox 3 rfl 26 (.slice a8 (us ++ [z.x.uid]).length c8)
                    replace hz9 : Hid (Zoo W0 (w8.setCell ⟨wb, 26, none⟩ (.slice a8 (us ++ [z.x.uid]).length c8)) (boxT Lb [.int .u64 z.x.uid, .slice z.a z.x.flags.length z.c, .int .u64 z.x.mod, .string z.x.hash, .int .u64 z.x.size].toArray 66 :: ltT.row (.slice (some ⟨gn, 0, none⟩) x.rows.length c5) nx :: capT c d wb (mostB (x.rows.map LtV.x)) :: workL wb { k with aU := a8, cU := c8, aM := aM, cM := cM, S := S } m q y { o with uids := us ++ [z.x.uid], mods := ms })) := Lib.hid hz9
                    rw [← e.out] at hz9
                    generalize (us ++ [z.x.uid]).length = n8 at *
                    clear hz8 hact ho8 hg8 hat8 ho1 hF hown1 hzA hzd s26 sL hok hS0
                    go_wp2_with fail
                    generalize w8.setCell ⟨wb, 26, none⟩ (.slice a8 n8 c8) = wA at hz9 ⊢
                    have hzd := hz9.out.drew
                    have s16 : wA.drew.cell? ⟨wb, 16, none⟩ = some (.slice y.af q.flags.length y.cf) := box_cell (hzd.box 3 rfl).1 16
                    have s17 : wA.drew.cell? ⟨wb, 17, none⟩ = some (.int .i64 q.how) := box_cell (hzd.box 3 rfl).1 17
                    have sL : wA.drew.cell? ⟨Lb, 1, none⟩ = some (.slice z.a z.x.flags.length z.c) := box_cell (hzd.box 0 rfl).1 1
                    have hch : Hid (Calls Tryz.prog 73 #[.slice z.a z.x.flags.length z.c, .int .i64 q.how, .slice y.af q.flags.length y.cf] wA.drew (ChNew z.x.flags q.how q.flags wA.drew)) := Lib.hid (change_new z.v (.slice y.af q.flags.length y.cf) z.x.flags q.flags q.how wA.drew (hzd.fl 9 rfl hzS.out) (Rd.below hin.out.2 hzd.bel) (by have := hzf.out; omega) (by have := hq.out.fl; omega) hzz.out hq.out.sz)
                    clear t26 tL f26
                    refine wp_region_hd (fun w' => w'.cell? ⟨wb, 16, none⟩ = some (.slice y.af q.flags.length y.cf) ∧ w'.cell? ⟨wb, 17, none⟩ = some (.int .i64 q.how) ∧ w'.cell? ⟨Lb, 1, none⟩ = some (.slice z.a z.x.flags.length z.c)) 17 1 (by kernel_rfl) rfl ⟨by kernel_rfl, by kernel_rfl, by kernel_rfl, by decide⟩ ⟨s16, s17, sL⟩ (fun hok hS0 => ?_)
                    generalize wA.drew = Wd at *
                    refine Hd.take (i := 0) (v := ?tv156) hok rfl (by kernel_rfl) (fun _ _ _ h => h) (Or.inl ⟨by rfl, ?ty156⟩) (by assumption) ?tr156
                    case ty156 => (intro w hSw; (try dsimp only at hSw); go_simp; (try with_reducible rfl))
                    try simp only [List.getElem_toArray, List.getElem_cons_succ, List.getElem_cons_zero, Act.put, List.setIfInBounds_toArray, List.set_cons_zero, List.set_cons_succ]
                    refine Hd.take (i := 1) (v := ?tv157) hok rfl (by kernel_rfl) (fun _ _ _ h => h) (Or.inl ⟨by rfl, ?ty157⟩) (by assumption) ?tr157
                    case ty157 => (intro w hSw; (try dsimp only at hSw); go_simp; (try with_reducible rfl))
                    try simp only [List.getElem_toArray, List.getElem_cons_succ, List.getElem_cons_zero, Act.put, List.setIfInBounds_toArray, List.set_cons_zero, List.set_cons_succ]
                    refine Hd.take (i := 2) (v := ?tv158) hok rfl (by kernel_rfl) (fun _ _ _ h => h) (Or.inl ⟨by rfl, ?ty158⟩) (by assumption) ?tr158
                    case ty158 => (intro w hSw; (try dsimp only at hSw); go_simp; (try with_reducible rfl))
                    try simp only [List.getElem_toArray, List.getElem_cons_succ, List.getElem_cons_zero, Act.put, List.setIfInBounds_toArray, List.set_cons_zero, List.set_cons_succ]
                    refine Hd.take (i := 3) (v := ?tv159) hok rfl (by kernel_rfl) (fun _ _ _ h => h) (Or.inl ⟨by rfl, ?ty159⟩) (by assumption) ?tr159
                    case ty159 => (intro w hSw; (try dsimp only at hSw); go_simp; (try with_reducible rfl))
                    try simp only [List.getElem_toArray, List.getElem_cons_succ, List.getElem_cons_zero, Act.put, List.setIfInBounds_toArray, List.set_cons_zero, List.set_cons_succ]
                    refine Hd.take (i := 4) (v := ?tv160) hok rfl (by kernel_rfl) (fun _ _ _ h => h) (Or.inl ⟨by rfl, ?ty160⟩) (by assumption) ?tr160
                    case ty160 => (intro w hSw; (try dsimp only at hSw); go_simp; (try with_reducible rfl))
                    try simp only [List.getElem_toArray, List.getElem_cons_succ, List.getElem_cons_zero, Act.put, List.setIfInBounds_toArray, List.set_cons_zero, List.set_cons_succ]
                    refine Hd.take (i := 5) (v := ?tv161) hok rfl (by kernel_rfl) (fun _ _ _ h => h) (Or.inl ⟨by rfl, ?ty161⟩) (by assumption) ?tr161
                    case ty161 => (intro w hSw; (try dsimp only at hSw); go_simp; (try with_reducible rfl))
                    try simp only [List.getElem_toArray, List.getElem_cons_succ, List.getElem_cons_zero, Act.put, List.setIfInBounds_toArray, List.set_cons_zero, List.set_cons_succ]
                    refine Hd.take (i := 6) (v := ?tv162) hok rfl (by kernel_rfl) (fun _ _ _ h => h) (Or.inl ⟨by rfl, ?ty162⟩) (by assumption) ?tr162
                    case ty162 => (intro w hSw; (try dsimp only at hSw); go_simp; (try with_reducible rfl))
                    try simp only [List.getElem_toArray, List.getElem_cons_succ, List.getElem_cons_zero, Act.put, List.setIfInBounds_toArray, List.set_cons_zero, List.set_cons_succ]
                    refine Hd.take (i := 7) (v := ?tv163) hok rfl (by kernel_rfl) (fun _ _ _ h => h) (Or.inl ⟨by rfl, ?ty163⟩) (by assumption) ?tr163
                    case ty163 => (intro w hSw; (try dsimp only at hSw); go_simp; (try with_reducible rfl))
                    try simp only [List.getElem_toArray, List.getElem_cons_succ, List.getElem_cons_zero, Act.put, List.setIfInBounds_toArray, List.set_cons_zero, List.set_cons_succ]
                    refine Hd.take (i := 8) (v := ?tv164) hok rfl (by kernel_rfl) (fun _ _ _ h => h) (Or.inl ⟨by rfl, ?ty164⟩) (by assumption) ?tr164
                    case ty164 => (intro w hSw; (try dsimp only at hSw); go_simp; (try with_reducible rfl))
                    try simp only [List.getElem_toArray, List.getElem_cons_succ, List.getElem_cons_zero, Act.put, List.setIfInBounds_toArray, List.set_cons_zero, List.set_cons_succ]
                    refine Hd.take (i := 9) (v := ?tv165) hok rfl (by kernel_rfl) (fun _ _ _ h => h) (Or.inl ⟨by rfl, ?ty165⟩) (by assumption) ?tr165
                    case ty165 => (intro w hSw; (try dsimp only at hSw); go_simp; (try with_reducible rfl))
                    try simp only [List.getElem_toArray, List.getElem_cons_succ, List.getElem_cons_zero, Act.put, List.setIfInBounds_toArray, List.set_cons_zero, List.set_cons_succ]
                    refine Hd.take (i := 10) (v := ?tv166) hok rfl (by kernel_rfl) (fun _ _ _ h => h) (Or.inl ⟨by rfl, ?ty166⟩) (by assumption) ?tr166
                    case ty166 => (intro w hSw; (try dsimp only at hSw); go_simp; (try with_reducible rfl))
                    try simp only [List.getElem_toArray, List.getElem_cons_succ, List.getElem_cons_zero, Act.put, List.setIfInBounds_toArray, List.set_cons_zero, List.set_cons_succ]
                    refine Hd.take (i := 11) (v := ?tv167) hok rfl (by kernel_rfl) (fun _ _ _ h => h) (Or.inl ⟨by rfl, ?ty167⟩) (by assumption) ?tr167
                    case ty167 => (intro w hSw; (try dsimp only at hSw); go_simp; (try with_reducible rfl))
                    try simp only [List.getElem_toArray, List.getElem_cons_succ, List.getElem_cons_zero, Act.put, List.setIfInBounds_toArray, List.set_cons_zero, List.set_cons_succ]
                    refine Hd.one (i := 12) rfl (by kernel_rfl) (fun K hK => ?_)
                    go_simp
                    refine hch.out.mono ?_
                    rintro e w6 ⟨v6, rfl, hh6, hb6⟩
                    dsimp only
                    obtain ⟨a6, c6, hv6, -⟩ := id hh6.out
                    have hz6 := hzd.addFl' 9 rfl hb6.out hh6.out
                    subst hv6
                    generalize hF : chSet z.x.flags q.how q.flags = F at *
                    generalize hC : chCode z.x.flags q.how q.flags = C at *
                    replace hz6 : Zoo W0 w6 (boxT Lb [.int .u64 z.x.uid, .slice z.a z.x.flags.length z.c, .int .u64 z.x.mod, .string z.x.hash, .int .u64 z.x.size].toArray 66 :: ltT.row (.slice (some ⟨gn, 0, none⟩) x.rows.length c5) nx :: capT c d wb (mostB (x.rows.map LtV.x)) :: workL wb { k with aU := a8, cU := c8, aM := aM, cM := cM, S := (.slice a6 F.length c6, F) :: S } m q y (storeO (x.rows.map LtV.x) q o (j + 1))) := hz6
                    have s16 : w6.cell? ⟨wb, 16, none⟩ = some (.slice y.af q.flags.length y.cf) := box_cell (hz6.box 3 rfl).1 16
                    have s17 : w6.cell? ⟨wb, 17, none⟩ = some (.int .i64 q.how) := box_cell (hz6.box 3 rfl).1 17
                    have sL : w6.cell? ⟨Lb, 1, none⟩ = some (.slice z.a z.x.flags.length z.c) := box_cell (hz6.box 0 rfl).1 1
                    refine hK _ _ ⟨s16, s17, sL⟩ ?_
                    have hS6 : w6.cell? ⟨wb, 16, none⟩ = some (.slice y.af q.flags.length y.cf) ∧ w6.cell? ⟨wb, 17, none⟩ = some (.int .i64 q.how) ∧ w6.cell? ⟨Lb, 1, none⟩ = some (.slice z.a z.x.flags.length z.c) := ⟨s16, s17, sL⟩
                    clear hK K hch hh6 hb6 hzd hz9 hS0
                    replace hF := Lib.hid hF
                    replace hC := Lib.hid hC
                    try simp only [List.getElem_toArray, List.getElem_cons_succ, List.getElem_cons_zero, Act.put, List.setIfInBounds_toArray, List.set_cons_zero, List.set_cons_succ]
                    refine Hd.take (i := 13) (v := ?tv168) hok rfl (by kernel_rfl) (fun _ _ _ h => h) (Or.inl ⟨by rfl, ?ty168⟩) (by assumption) ?tr168
                    case ty168 => (intro w hSw; (try dsimp only at hSw); go_simp; (try with_reducible rfl))
                    try simp only [List.getElem_toArray, List.getElem_cons_succ, List.getElem_cons_zero, Act.put, List.setIfInBounds_toArray, List.set_cons_zero, List.set_cons_succ]
                    refine Hd.take (i := 14) (v := ?tv169) hok rfl (by kernel_rfl) (fun _ _ _ h => h) (Or.inl ⟨by rfl, ?ty169⟩) (by assumption) ?tr169
                    case ty169 => (intro w hSw; (try dsimp only at hSw); go_simp; (try with_reducible rfl))
                    try simp only [List.getElem_toArray, List.getElem_cons_succ, List.getElem_cons_zero, Act.put, List.setIfInBounds_toArray, List.set_cons_zero, List.set_cons_succ]
                    refine Hd.take (i := 15) (v := ?tv170) hok rfl (by kernel_rfl) (fun _ _ _ h => h) (Or.inl ⟨by rfl, ?ty170⟩) (by assumption) ?tr170
                    case ty170 => (intro w hSw; (try dsimp only at hSw); go_simp; (try with_reducible rfl))
                    try simp only [List.getElem_toArray, List.getElem_cons_succ, List.getElem_cons_zero, Act.put, List.setIfInBounds_toArray, List.set_cons_zero, List.set_cons_succ]
                    refine Hd.take (i := 16) (v := ?tv171) hok rfl (by kernel_rfl) (fun _ _ _ h => h) (Or.inl ⟨by rfl, ?ty171⟩) (by assumption) ?tr171
                    case ty171 => (intro w hSw; (try dsimp only at hSw); go_simp; (try with_reducible rfl))
                    try simp only [List.getElem_toArray, List.getElem_cons_succ, List.getElem_cons_zero, Act.put, List.setIfInBounds_toArray, List.set_cons_zero, List.set_cons_succ]
                    refine Hd.done (by kernel_rfl) ?_
                    simp only [List.drop_succ_cons, List.drop_zero]
                    clear hS6 hok s16 s17
                    have hok6 : Hid (WkOk { k with aU := a8, cU := c8, aM := aM, cM := cM, S := (.slice a6 F.length c6, F) :: S } m) := Lib.hid ⟨hk.out.1, fun bx hbx w hw => List.mem_cons_of_mem _ (hst.out.sub _ (hk.out.2 bx hbx w hw))⟩
                    by_cases hC0 : C = 0
                    · subst hC0
                      have hnf : Hid (stFails (x.rows.map LtV.x) q z.x = false) := Lib.hid (by unfold stFails; rw [hC.out, hd.out]; rfl)
                      have hF40 : Hid (F.length * 16 ≤ 140737488355328) := Lib.hid (by have := chSet_len z.x.flags q.how q.flags; rw [hF.out] at this; omega)
                      have heq : Hid (Calls Tryz.prog 74 #[.slice a6 F.length c6, .slice z.a z.x.flags.length z.c] w6 fun e w' => e = .returned (.bool (decide (F = z.x.flags))) ∧ Hid (Below w6.heap.size w6 w')) := Lib.hid (equal_any (.slice a6 F.length c6) z.v F z.x.flags w6 (hz6.fl 9 rfl (List.mem_cons_self ..)) (hz6.fl 9 rfl (List.mem_cons_of_mem _ hzS.out)) hF40.out (by have := hzf.out; omega))
                      replace hz6 := Lib.hid hz6
                      go_wp2_with fail
                      refine heq.out.mono ?_
                      rintro e w7 ⟨rfl, hb7⟩
                      have hz7 := hz6.out.below hb7.out
                      have hnxl : nx.length = x.rows.length := by have := hst.out.len; rwa [List.length_map] at this
                      have hjn : j < nx.length := by omega
                      have hat : (nx[j]'hjn).x = z.x := by rw [hst.out.at_ hlm.out, hzj.out]
                      by_cases hFe : F = z.x.flags
                      · have hst2 := Lib.hid ((hst.out.skip hlm.out (by rw [hzj.out]; unfold stTurns; rw [hF.out, decide_eq_true hFe]; simp) (by rw [hzj.out]; exact hnf.out)).more (.slice a6 F.length c6, F))
                        have hFd : decide (F = z.x.flags) = true := decide_eq_true hFe
                        replace hz7 := Lib.hid hz7.tail
                        clear hFe heq hb7 hz6 hst hd hzj hlm hC hF hzS hzz hzf e hnf hat hnxl hjn hok6
                        rw [hFd]
                        clear hFd
                        go_wp2_with fail
                        go_roundw
                        case rel => exact ⟨j + 1, ch, a8, c8, aM, cM, _, nx, by go_num, rfl, by omega, hst2, hz7⟩
                        case measure => simp [intOf] <;> omega
                      · have hFd : decide (F = z.x.flags) = false := decide_eq_false hFe
                        rw [hFd]
                        clear hFd
                        obtain ⟨z', hz'⟩ : ∃ z' : LtV, (⟨{ z.x with flags := F, mod := x.high + 1 }, a6, c6⟩ : LtV) = z' := ⟨_, rfl⟩
                        have hst2 := hst.out.turn hlm.out (by rw [hzj.out]; unfold stTurns; rw [hF.out, hd.out, decide_eq_false hFe]; rfl) (by rw [hzj.out]; exact hnf.out) z' (by rw [← hz', hzj.out, hF.out])
                        have hp' : (z'.v, z'.x.flags) = (Value.slice a6 F.length c6, F) := by rw [← hz']; rfl
                        rw [hp'] at hst2
                        replace hst2 := Lib.hid hst2
                        obtain ⟨z1, hz1⟩ : ∃ z1 : LtV, (⟨{ z.x with flags := F }, a6, c6⟩ : LtV) = z1 := ⟨_, rfl⟩
                        obtain ⟨g', capn, hv, -, hgn, hcn, hfn, hz8⟩ := hz7.putField 1 rfl j hjn 1 (by decide) (.slice a6 F.length c6) z1 (by
                          rw [← hz1]
                          show ltCells _ = (ltCells (nx[j]'hjn)).set 1 _
                          unfold ltCells
                          rw [hat]
                          rfl)
                        injection hv with hv hvb hvc
                        clear hvb hvc
                        injection hv with hv
                        injection hv with hv
                        subst hv
                        have n1 := hcn 1 (by decide)
                        have n2 : w7.cell? ⟨gn, j * 5 + 2, none⟩ = some (.int .u64 (nx[j]'hjn).x.mod) := hcn 2 (by decide)
                        replace n1 : w7.cell? ⟨gn, j * 5 + 1, none⟩ = some (nx[j]'hjn).v := n1
                        rw [hat] at n2
                        generalize (nx[j]'hjn).v = oldv at n1
                        have m1 := hfn (j * 5 + 1)
                        have m2 := hfn (j * 5 + 2)
                        have hz8' : Zoo W0 (w7.setCell ⟨gn, j * 5 + 1, none⟩ (.slice a6 F.length c6)) (boxT Lb [.int .u64 z.x.uid, .slice z.a z.x.flags.length z.c, .int .u64 z.x.mod, .string z.x.hash, .int .u64 z.x.size].toArray 66 :: ltT.row (.slice (some ⟨gn, 0, none⟩) x.rows.length c5) (nx.set j z1) :: capT c d wb (mostB (x.rows.map LtV.x)) :: workL wb { k with aU := a8, cU := c8, aM := aM, cM := cM, S := (.slice a6 F.length c6, F) :: S } m q y (storeO (x.rows.map LtV.x) q o (j + 1))) := hz8
                        obtain ⟨g9, cap9, hv9, -, -, -, -, hz9⟩ := hz8'.putField 1 rfl j (by rw [List.length_set]; exact hjn) 2 (by decide) (.int .u64 ((x.high : Int) + 1)) z' (by
                          rw [List.getElem_set_self, ← hz', ← hz1]
                          rfl)
                        injection hv9 with hv9 hvb hvc
                        clear hvb hvc
                        injection hv9 with hv9
                        injection hv9 with hv9
                        subst hv9
                        replace hz9 : Zoo W0 ((w7.setCell ⟨gn, j * 5 + 1, none⟩ (.slice a6 F.length c6)).setCell ⟨gn, j * 5 + 2, none⟩ (.int .u64 ((x.high : Int) + 1))) (boxT Lb [.int .u64 z.x.uid, .slice z.a z.x.flags.length z.c, .int .u64 z.x.mod, .string z.x.hash, .int .u64 z.x.size].toArray 66 :: ltT.row (.slice (some ⟨gn, 0, none⟩) x.rows.length c5) ((nx.set j z1).set j z') :: capT c d wb (mostB (x.rows.map LtV.x)) :: workL wb { k with aU := a8, cU := c8, aM := aM, cM := cM, S := (.slice a6 F.length c6, F) :: S } m q y (storeO (x.rows.map LtV.x) q o (j + 1))) := hz9
                        rw [List.set_set] at hz9
                        replace hz9 := Lib.hid hz9.tail
                        obtain ⟨g', hg', hglt, hbox, hfr⟩ := work_box hz7.tail.tail.tail rfl hil
                        obtain rfl : g = g' := by have h := hg.out.symm.trans hg'; injection h with h; injection h
                        rw [show ({ k with aU := a8, cU := c8, aM := aM, cM := cM, S := (.slice a6 F.length c6, F) :: S } : WkV).bs[i] = x from hx.out] at hbox
                        have b3 := hbox.c3
                        have hxh3 : x.high + 1 < 18446744073709551616 := by omega
                        have hj0 : (0 : Int) ≤ (j : Int) := by omega
                        clear hz7 hz8 hz8' hcn hfn hg' hbox hfr hFe heq hb7 hz6 hst hd hzj hlm hC hF hzS hzz hzf e hnf hat hnxl hok6 hz' hz1 hp'
                        generalize F.length = Fn at *
                        go_wp2_with fail
                        go_roundw
                        case rel => exact ⟨j + 1, true, a8, c8, aM, cM, _, nx.set j z', by go_num, rfl, by omega, hst2, hz9⟩
                        case measure => simp [intOf] <;> omega
                    · have hne : ((C : Int) != 0) = true := by simp; omega
                      have hr : Hid (storeM m q o = (7, m, o)) := Lib.hid (by
                        rw [hr0.out, if_pos]
                        refine List.any_eq_true.2 ⟨z.x, by rw [← hzj.out]; exact List.getElem_mem _, ?_⟩
                        unfold stFails
                        rw [hd.out, hC.out, decide_eq_false hC0]; rfl)
                      replace hz6 := Lib.hid hz6.tail.tail.tail
                      clear hst hd hzj hlm hC0 hC hF hzS hzz hzf e
                      go_wp2_with fail
                      go_ret
                      exact WkRet2.of hr.out (fun h => by cases h) ⟨_, rfl, hok6, hz6⟩
            · obtain rfl : j = x.rows.length := by omega
              have hll : x.rows.length = (x.rows.map LtV.x).length := (List.length_map ..).symm
              have hst1 := hst.out
              rw [hll] at hst1
              have hnl : nx.length = x.rows.length := by have := hst1.len; rwa [List.length_map] at this
              have hnow := hst1.now
              rw [List.take_length, List.drop_length, List.append_nil] at hnow
              have hch := hst1.ch
              have hgood := hst1.good
              rw [List.take_length] at hch hgood
              have hl1 : (x.rows.length : Int) ≤ (x.rows.length : Int) := by omega
              have hok2 : Hid (WkOk { k with aU := aU, cU := cU, aM := aM, cM := cM, S := S } m) := Lib.hid ⟨hk.out.1, fun bx hbx w hw => hst1.sub _ (hk.out.2 bx hbx w hw)⟩
              have hrA : storeM m q o = (if ch = false then (0, m, storeO (x.rows.map LtV.x) q o x.rows.length)
                    else if 9223372036854775807 ≤ x.high then (13, m, o)
                    else (0, setM m i { x.b with high := x.high + 1, letters := nx.map LtV.x }, storeO (x.rows.map LtV.x) q o x.rows.length)) := by
                rw [hr0.out, if_neg (by rw [hgood]; simp), ← hch, hnow]
              obtain ⟨g', hg', hglt, hbox, hfr⟩ := work_box hz.out.tail.tail rfl hil
              obtain rfl : g = g' := by have h := hg.out.symm.trans hg'; injection h with h; injection h
              rw [show ({ k with aU := aU, cU := cU, aM := aM, cM := cM, S := S } : WkV).bs[i] = x from hx.out] at hbox
              have b3 := hbox.c3
              have b4 := hbox.c4
              have f3 := hfr (i * 5 + 3)
              have f4 := hfr (i * 5 + 4)
              cases ch with
              | false =>
                have hr : Hid (storeM m q o = (0, m, storeO (x.rows.map LtV.x) q o x.rows.length)) := Lib.hid (by rw [hrA, if_pos rfl])
                replace hz := Lib.hid hz.out.tail.tail
                clear hrA hr0 hch hgood hnow hst1 hst hnl hg' hbox hfr hll
                go_wp2_with fail
                go_ret
                exact WkRet2.of hr.out (fun _ => rfl) ⟨_, rfl, hok2, hz⟩
              | true =>
                rw [if_neg (by simp)] at hrA
                by_cases hhi : 9223372036854775807 ≤ x.high
                · have hhi2 : (9223372036854775807 : Int) ≤ (x.high : Int) := by omega
                  have hr : Hid (storeM m q o = (13, m, o)) := Lib.hid (by rw [hrA, if_pos hhi])
                  replace hz := Lib.hid hz.out.tail.tail
                  clear hrA hr0 hch hgood hnow hst1 hst hnl hg' hbox hfr hll
                  go_wp2_with fail
                  go_ret
                  exact WkRet2.of hr.out (fun h => by cases h) ⟨_, rfl, hok2, hz⟩
                · have hhi2 : decide ((9223372036854775807 : Int) ≤ (x.high : Int)) = false := decide_eq_false (by omega)
                  have hhi3 : x.high + 1 < 18446744073709551616 := by omega
                  have hr : Hid _ := Lib.hid (hrA.trans (if_neg hhi))
                  obtain ⟨x1, hx1e⟩ : ∃ x1 : BxV, { x with rows := nx, a := some ⟨gn, 0, none⟩, c := c5 } = x1 := ⟨_, rfl⟩
                  have hz6 := (hz.out.sub (List.Sublist.cons_cons _ (List.Sublist.cons _ (List.Sublist.refl _)))).repl (i + 7) (List.getElem?_eq_some_iff.1 (work_let0 (wb := wb) (k := { k with aU := aU, cU := cU, aM := aM, cM := cM, S := S }) (m := m) (q := q) (y := y) (o := storeO (x.rows.map LtV.x) q o x.rows.length) i hil)).1
                  have hz6' : Zoo W0 wr ((workL wb { k with aU := aU, cU := cU, aM := aM, cM := cM, S := S } m q y (storeO (x.rows.map LtV.x) q o x.rows.length)).set (i + 7) (ltT.row x1.v x1.rows)) := by
                    rw [← hx1e]
                    show Zoo W0 wr ((workL wb { k with aU := aU, cU := cU, aM := aM, cM := cM, S := S } m q y (storeO (x.rows.map LtV.x) q o x.rows.length)).set (i + 7) (ltT.row (.slice (some ⟨gn, 0, none⟩) nx.length c5) nx))
                    rw [hnl]
                    exact hz6
                  have hz7 := work_store0 (k := { k with aU := aU, cU := cU, aM := aM, cM := cM, S := S }) hil x1 hz6' hg.out 4 (by decide) (.slice (some ⟨gn, 0, none⟩) x.rows.length c5) (by
                    rw [← hx1e, ← hnl]
                    show _ = (bxT.enc (k.bs[i]'hil)).set 4 _
                    rw [hx.out]
                    rfl)
                  have hxl1 : HasL S x1.rows := by rw [← hx1e]; exact hst1.has
                  obtain ⟨k2, m2, hk2, hm2, hok3, hg2, hil2, hx2⟩ := hok2.out.bump hil x1 hxl1
                  rw [hk2, hm2] at hz7
                  have hx2' := hx2 hil2
                  have hz8 := work_store1 (k := k2) hil2 { x1 with high := x.high + 1 } hz7 (by rw [hx2']) (by rw [hx2']; rfl) (hg2.trans hg.out) 3 (by decide) (.int .u64 ((x.high : Int) + 1)) (by rw [hx2', ← hx1e]; rfl)
                  have hok4 := WkOk.set (i := i) hok3 { x1 with high := x.high + 1 } (by rw [← hk2]; exact hxl1)
                  have hm3 : setM m2 i ({ x1 with high := x.high + 1 } : BxV).b = setM m i { x.b with high := x.high + 1, letters := nx.map LtV.x } := by
                    rw [← hm2, ← hx1e, setM_set]
                    rfl
                  rw [hm3] at hz8 hok4
                  replace hz8 := Lib.hid hz8
                  replace hok4 := Lib.hid hok4
                  clear hz7 hz6 hz6' hbox hfr hg' hx1e hxl1 hk2 hm2 hok3 hg2 hx2 hx2' hm3 hok2 hz hrA hr0 hch hgood hnow hst1 hst hnl hll
                  go_wp2_with fail
                  go_ret
                  exact WkRet2.of hr.out (fun _ => rfl) ⟨_, rfl, hok4, hz8⟩
end Go.Proofs.YtcnebfmlelcliaaGreat
