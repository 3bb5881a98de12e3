/- NetCuts: walked. -/
import Derived.Test.YtjopbglimjhefaaNeY
namespace Go.Proofs.Ytjopbglimjhefaa
open Go.RowKit Go.Maps Go.WideMaps

theorem Zoo.lenA {W0 W : World} {L : List Th} {v : Value} {l : List ActD} (h : Zoo W0 W L) (i : Nat) (hi : L[i]? = some (rowA v l)) : ∃ a c, v = .slice a l.length c := by
  obtain ⟨a, c, e, _⟩ := h.acts i hi
  exact ⟨a, c, e⟩
theorem sub3 {α : Type} (a b c : α) (l : List α) : (a :: l).Sublist (a :: b :: c :: l) := ((List.Sublist.refl l).cons c |>.cons b).cons_cons a
set_option maxRecDepth 100000 in
set_option maxHeartbeats 8000000 in
theorem netCuts_any (v : Value) (acts : List ActD) (x y : Int) (W : World) (hin : ActsIn W v acts) (hbig : (acts.length : Int) ≤ 9223372036854775807) : Calls Try.prog 5 #[v, .int .i64 x, .int .i64 y] W fun e w' => e = .returned (.bool true) ∧ Below W.heap.size W w' := by
  have hal := Lib.hid (alive_any W)
  obtain ⟨ao, cap, rfl, -⟩ := id hin
  replace hin := Lib.hid hin
  go_enter Try.func5, Try.ntmps5
  go_wp2_with fail
  refine hal.out.mono ?_
  rintro e w1 ⟨rfl, hB1⟩
  have hc := Lib.hid (new_zoo (Zoo.nil w1))
  clear hal
  go_wp2_with fail
  refine hc.out.mono ?_
  rintro e w2 ⟨b1, rfl, hz⟩
  clear hc
  have hc := Lib.hid (new_zoo hz)
  clear hz
  go_wp2_with fail
  refine hc.out.mono ?_
  rintro e w3 ⟨b2, rfl, hz⟩
  have hcall := cut_zoo hz 1 b1 Ns.new rfl (by decide) x y true
  clear hc
  cases hq : linkB x y
  · have hs := cuts_says hq
    have e1 : cutS Ns.new x y true = (1, Ns.new) := by unfold cutS; rw [hq]; rfl
    rw [e1] at hcall
    replace hcall := Lib.hid hcall
    replace hs := Lib.hid hs
    clear hz hq
    go_wp2_with fail
    refine hcall.out.mono ?_
    rintro e w4 ⟨rfl, hz⟩
    have hB := Lib.hid (hB1.out.trans (Zoo.bel hz |>.mono hB1.out.size))
    clear hcall hz
    go_wp2_with fail
    all_goals
      go_ret
      refine ⟨?_, hB.out⟩
      first
        | rfl
        | (have h := hs.out
           simp only [Bool.or_eq_true, decide_eq_true_eq, beq_iff_eq] at h
           simp [Array.getD]
           omega)
  · have e1 : cutS Ns.new x y true = (0, cutNew x y) := by unfold cutS; rw [hq]; rfl
    rw [e1] at hcall
    replace hcall := Lib.hid hcall
    replace hq := Lib.hid hq
    clear hz
    go_wp2_with fail
    refine hcall.out.mono ?_
    rintro e w4 ⟨rfl, hz⟩
    have hz0 : Hid (Zoo w1 w4 [netT b2 Ns.new, netT b1 (cutNew x y), rowA (.slice none 0 0) []]) := Lib.hid (by
      have hz : Zoo w1 w4 [netT b2 Ns.new, netT b1 (cutNew x y)] := hz
      exact hz.bareRowA.swap.swap2)
    clear hcall hz
    go_wp2_with fail
    go_loopw [9, 10] (fun v9 v10 wr => ∃ (i : Nat) (ks : List ActD), v10 = .int .i64 i ∧ i ≤ acts.length ∧ ks.length ≤ 60 ∧ (∃ ak ck, v9 = .slice ak ks.length ck) ∧ Hid (∀ a ∈ ks, Mild a.kind) ∧ Hid (Zoo w1 wr [netT b2 Ns.new, netT b1 (cutNew x y), rowA v9 ks])) (fun _ v10 _ => acts.length - (intOf v10).toNat)
    case atStart => exact ⟨0, [], rfl, Nat.zero_le _, Nat.zero_le _, ⟨none, 0, rfl⟩, Lib.hid (fun a ha => by simp at ha), hz0⟩
    case round =>
      clear hz0
      obtain ⟨i, ks, rfl, hi, hk60, ⟨ak, ck, rfl⟩, hmild, hz⟩ := hrel
      by_cases hgo : i < acts.length ∧ ks.length < 60
      · obtain ⟨hlt, hk⟩ := hgo
        have hl1 : (i : Int) < (acts.length : Int) := by omega
        have hl2 : (ks.length : Int) < 60 := by omega
        obtain ⟨ao1, cap1, hv, hcell⟩ := (hin.out.below (hB1.out.trans (hz.out.bel.mono hB1.out.size)))
        injection hv with hv1 hv2 hv3
        subst hv1 hv3
        rcases hcell with h0 | ⟨B, o, rfl, hB, hcell⟩
        · rw [h0] at hlt; simp at hlt
        · obtain ⟨a0, a1, a2, a3, a4⟩ := hcell i hlt
          have hBs : B ≠ wr.heap.size := by omega
          clear hcell hB
          obtain ⟨A, hA⟩ : ∃ A, acts[i] = A := ⟨_, rfl⟩
          rw [hA] at a0 a1 a2 a3 a4
          clear hA
          obtain ⟨kd, xa, xb, xn, xt⟩ := A
          simp only [] at a0 a1 a2 a3 a4
          by_cases hm : Mild kd
          · have hmild2 := Lib.hid (show ∀ a ∈ ks ++ [⟨kd, xa, xb, xn, xt⟩], Mild a.kind from fun a ha => by
              rcases List.mem_append.1 ha with h | h
              · exact hmild.out a h
              · rw [List.mem_singleton.1 h]; exact hm)
            have hlk : ks.length ≤ 100000 := by omega
            unfold Mild at hm
            rcases hm with hm | rfl | rfl
            · go_wp2_with (at_builtin; refine wpList_append_act rfl _ _ rfl hz.out 2 (.slice ak ks.length ck) ks ⟨kd, xa, xb, xn, xt⟩ rfl rfl _ rfl (by simp) hlk ?_)
              intro v9 w5 hz5
              obtain ⟨ak2, ck2, rfl⟩ := Zoo.lenA hz5 2 rfl
              replace hz5 := Lib.hid hz5
              clear hz hmild
              go_wp2_with fail
              go_roundw
              case rel => exact ⟨i + 1, ks ++ [⟨kd, xa, xb, xn, xt⟩], by go_num, by omega, by simp; omega, ⟨_, _, rfl⟩, hmild2, hz5⟩
              case measure => simp [intOf] <;> omega
            · go_wp2_with (at_builtin; refine wpList_append_act rfl _ _ rfl hz.out 2 (.slice ak ks.length ck) ks ⟨3, xa, xb, xn, xt⟩ rfl rfl _ rfl (by simp) hlk ?_)
              intro v9 w5 hz5
              obtain ⟨ak2, ck2, rfl⟩ := Zoo.lenA hz5 2 rfl
              replace hz5 := Lib.hid hz5
              clear hz hmild
              go_wp2_with fail
              go_roundw
              case rel => exact ⟨i + 1, ks ++ [⟨3, xa, xb, xn, xt⟩], by go_num, by omega, by simp; omega, ⟨_, _, rfl⟩, hmild2, hz5⟩
              case measure => simp [intOf] <;> omega
            · go_wp2_with (at_builtin; refine wpList_append_act rfl _ _ rfl hz.out 2 (.slice ak ks.length ck) ks ⟨5, xa, xb, xn, xt⟩ rfl rfl _ rfl (by simp) hlk ?_)
              intro v9 w5 hz5
              obtain ⟨ak2, ck2, rfl⟩ := Zoo.lenA hz5 2 rfl
              replace hz5 := Lib.hid hz5
              clear hz hmild
              go_wp2_with fail
              go_roundw
              case rel => exact ⟨i + 1, ks ++ [⟨5, xa, xb, xn, xt⟩], by go_num, by omega, by simp; omega, ⟨_, _, rfl⟩, hmild2, hz5⟩
              case measure => simp [intOf] <;> omega
          · have e2 : (2 : Int) ≤ kd := by unfold Mild at hm; omega
            have e3 : (kd == 3) = false := by unfold Mild at hm; simp; omega
            have e5 : (kd == 5) = false := by unfold Mild at hm; simp; omega
            clear hm
            go_wp2_with fail
            go_roundw
            case rel => exact ⟨i + 1, ks, by go_num, by omega, by omega, ⟨_, _, rfl⟩, hmild, hz⟩
            case measure => simp [intOf] <;> omega
      · have hcase : ((acts.length : Int) ≤ (i : Int)) ∨ (((i : Int) < (acts.length : Int)) ∧ (60 : Int) ≤ (ks.length : Int)) := by omega
        have hkl : ks.length ≤ 200 := by omega
        have hr1 := run_any b1 (cutNew x y) (.slice ak ks.length ck) ks ⟨by simp [cutNew], fun q hq => by simp [cutNew] at hq, Nat.zero_le _, Nat.zero_le _, by show 1 ≤ 1000; omega⟩ hz.out.swap (hz.out.acts 2 rfl) (fun W' h => h.acts 1 rfl)
        unfold RunRet at hr1
        rw [List.take_of_length_le hkl] at hr1
        replace hr1 := Lib.hid hr1
        clear hz hin hgo
        rcases hcase with hl1 | ⟨hl1, hl2⟩
        all_goals
          go_wp2_with fail
          refine hr1.out.mono ?_
          rintro e w5 ⟨vs1, vc1, sn1, cm1, s1, rfl, hz, hrun1⟩
          have hz := (hz.out.sub (sub3 _ _ _ _)).swap
          have hr2 := run_any b2 Ns.new (.slice ak ks.length ck) ks (NOk.new 1000) hz (hz.acts 2 rfl) (fun W' h => h.acts 1 rfl)
          unfold RunRet at hr2
          rw [List.take_of_length_le hkl] at hr2
          replace hr2 := Lib.hid hr2
          clear hz hr1
          go_wp2_with fail
          refine hr2.out.mono ?_
          rintro e w6 ⟨vs2, vc2, sn2, cm2, s2, rfl, hz, hrun2⟩
          have hz0 : Hid (Zoo w1 w6 [netT b2 s2, netT b1 s1]) := Lib.hid ((hz.out.sub (sub3 _ _ _ _)).sub (by simp))
          obtain ⟨hbs, ht0⟩ := both_start hrun1.out hrun2.out hmild.out hk60
          replace hbs : Hid (Both s1 s2 s1.now 0 (cutNew x y).C ∧ Later0 s1 0) := Lib.hid ⟨hbs, fun h => by omega⟩
          obtain ⟨t0, ht0e⟩ : ∃ t0, s1.now = t0 := ⟨_, rfl⟩
          rw [ht0e] at hbs ht0
          clear hr2 hrun1 hrun2 hz hmild ht0e
          go_wp2_with fail
          go_loopw [11] (fun v11 wr => ∃ (t : Nat) (sn sm : Ns), v11 = .int .i64 t ∧ t ≤ 161 ∧ Hid (Zoo w1 wr [netT b2 sm, netT b1 sn]) ∧ Hid (Both sn sm t0 t (cutNew x y).C ∧ Later0 sn t)) (fun v11 _ => 161 - (intOf v11).toNat)
          case atStart => exact ⟨0, s1, s2, rfl, by omega, hz0, hbs⟩
          case round =>
            clear hz0 hbs
            obtain ⟨t, sn, sm, rfl, ht, hz, hbo⟩ := hrel
            by_cases htl : t ≤ 160
            · have ht' : (t : Int) ≤ 160 := by omega
              go_wp2_with fail
              go_loopw [13] (fun _ wr => ∃ (sn sm : Ns), Hid (Zoo w1 wr [netT b2 sm, netT b1 sn]) ∧ Hid (Both sn sm t0 t (cutNew x y).C ∧ Later0 sn t)) (fun _ wr => lenAt wr b2)
              case atStart => exact ⟨sn, sm, hz, hbo⟩
              case round =>
                clear hz hbo
                obtain ⟨sn, sm, hz, hbo⟩ := hrel
                have hms := Lib.hid (lenAt_zoo hz.out 0 b2 sm rfl)
                have hcall := Lib.hid (next_zoo2 hz.out 0 b2 sm rfl hbo.out.1.m.len hbo.out.1.m.good)
                clear hz
                go_wp2_with fail
                refine hcall.out.mono ?_
                rintro e w7 ⟨ok, q, l2, rfl, hr, hz⟩
                replace hz : Zoo w1 w7 [netT b2 (withL sm l2), netT b1 sn] := hz
                clear hcall
                cases ok
                · rcases hbo.out.1.next_m hr.out with ⟨_, rfl, hlate⟩ | ⟨p, h, _⟩
                  · have hz8 := hz.alloc (.cells (pkArr q) 30)
                    have hcn := Lib.hid (next_zoo2 hz8 1 b1 sn rfl hbo.out.1.n.len hbo.out.1.n.good)
                    clear hz hr hz8
                    go_wp2_with fail
                    refine hcn.out.mono ?_
                    rintro e w8 ⟨ok3, q3, l3, rfl, hr3, hz9⟩
                    obtain ⟨hr4, hb4, hl4⟩ := hbo.out.1.more hlate hr3.out
                    obtain rfl : ok3 = false := by
                      cases ok3
                      · rfl
                      · simp at hr4
                    replace hz9 : Zoo w1 w8 [netT b2 sm, netT b1 (withL sn l3)] := hz9
                    have hz10 := hz9.alloc (.cells (pkArr q3) 30)
                    have hnw1 : sn.now ≤ 2000 := by have := hb4.n.now; have e : (withL sn l3).now = sn.now := rfl; omega
                    have hnw2 : sm.now ≤ 2000 := by have := hb4.m.now; omega
                    have hct := Lib.hid (tick_zoo hz10 1 b1 (withL sn l3) rfl (by show sn.now < _; omega))
                    have hb5 := Lib.hid hb4.tick
                    have hl5 : Hid (Later0 (tickS (withL sn l3)) (t + 1)) := Lib.hid (fun _ p hp => by have := hl4 p hp; show ((sn.now + 1 : Nat) : Int) ≤ _; omega)
                    clear hcn hr3 hr4 hz9 hz10 hb4 hl4 hbo hlate hms
                    go_wp2_with fail
                    refine hct.out.mono ?_
                    rintro e w9 ⟨rfl, hz11⟩
                    replace hz11 : Zoo w1 w9 [netT b2 sm, netT b1 (tickS (withL sn l3))] := hz11
                    have hcm := Lib.hid (tick_zoo hz11 0 b2 sm rfl (by omega))
                    clear hct hz11
                    go_wp2_with fail
                    refine hcm.out.mono ?_
                    rintro e w10 ⟨rfl, hz12⟩
                    replace hz12 : Hid (Zoo w1 w10 [netT b2 (tickS sm), netT b1 (tickS (withL sn l3))]) := Lib.hid hz12
                    clear hcm
                    go_wp2_with fail
                    go_roundw
                    case rel => exact ⟨t + 1, _, _, by go_num, by omega, hz12, Lib.hid ⟨hb5.out, hl5.out⟩⟩
                    case measure => simp [intOf] <;> omega
                  · simp at h
                · rcases hbo.out.1.next_m hr.out with ⟨h, _⟩ | ⟨p, h, hqd, hqp, hql⟩
                  · simp at h
                  · obtain rfl : q = p := by simpa using h
                    clear h
                    have hlq : Hid (l2.length + 1 = sm.l.length) := Lib.hid (by simpa using hqp.length_eq)
                    have hz7 := hz.newBox (pkArr q) 30
                    have hz8 : Hid (Zoo w1 (w7.alloc (.cells (pkArr q) 30)) [netT b2 (withL sm l2), netT b1 sn]) := Lib.hid hz7.tail
                    have hcn := Lib.hid (next_zoo2 hz7 2 b1 sn rfl hbo.out.1.n.len hbo.out.1.n.good)
                    have hlk := hq.out
                    have hC : (cutNew x y).C (lo q.src q.dst) (Go.Proofs.Ytjopbglimjhefaa.hi q.src q.dst) = (decide (q.src = x ∧ q.dst = y) || decide (q.src = y ∧ q.dst = x)) := cut_link hlk
                    have hxy : x ≠ y := by unfold linkB at hlk; have := of_decide_eq_true hlk; omega
                    replace hqd := Lib.hid hqd
                    have hqp0 := hqp
                    replace hqp := Lib.hid hqp
                    replace hql := Lib.hid hql
                    have hr0 := hr.out
                    simp only [if_true] at hr0
                    clear hz hlk
                    have hx1 : (q.src == x) = true ∨ (q.src == x) = false := by cases (q.src == x) <;> simp
                    have hx2 : (q.dst == y) = true ∨ (q.dst == y) = false := by cases (q.dst == y) <;> simp
                    have hx3 : (q.src == y) = true ∨ (q.src == y) = false := by cases (q.src == y) <;> simp
                    have hx4 : (q.dst == x) = true ∨ (q.dst == x) = false := by cases (q.dst == x) <;> simp
                    simp only [pkArr] at hz7 hz8 hcn
                    clear hz7
                    rcases hx1 with hx1 | hx1
                    · rcases hx2 with hx2 | hx2
                      · clear hx3 hx4
                        have hdead : Hid (Both sn (withL sm l2) t0 t (cutNew x y).C ∧ Later0 sn t) := Lib.hid ⟨hbo.out.1.dead hr0 hqp.out (by rw [hC]; simp only [beq_iff_eq] at *; simp [*]), hbo.out.2⟩
                        clear hcn hC hr hr0 hbo hqd hql hqp hqp0
                        go_wp2_with fail
                        go_roundw
                        case rel => exact ⟨_, _, hz8, hdead⟩
                        case measure =>
                          have e1 := lenAt_zoo hz8.out 0 b2 _ rfl
                          have e2 := hms.out
                          have e3 := hlq.out
                          show lenAt (w7.alloc _) b2 < lenAt _ b2
                          rw [e1, e2]
                          show l2.length < _
                          omega
                      · replace hx3 : (q.src == y) = false := by simp only [beq_iff_eq, beq_eq_false_iff_ne, ne_eq] at *; omega
                        clear hx4
                        have hcl : (cutNew x y).C (lo q.src q.dst) (Go.Proofs.Ytjopbglimjhefaa.hi q.src q.dst) = false := by
                          have y1 := hx1
                          have y2 : x ≠ y := hxy
                          rw [hC, Bool.or_eq_false_iff]
                          simp only [beq_iff_eq, beq_eq_false_iff_ne, ne_eq] at *
                          exact ⟨decide_eq_false (by omega), decide_eq_false (by omega)⟩
                        replace hcl := Lib.hid hcl
                        clear hC hr hqp0
                        go_wp2_with fail
                        refine hcn.out.mono ?_
                        rintro e w9 ⟨ok3, q3, l3, rfl, hr3, hz9⟩
                        generalize w7.heap.size = B12 at hz9 ⊢
                        replace hz9 : Zoo w1 w9 [boxT B12 (pkArr q) 30, netT b2 (withL sm l2), netT b1 (withL sn l3)] := hz9
                        have hz10 := Lib.hid (hz9.tail.alloc (.cells (pkArr q) 30))
                        obtain ⟨hbx, -⟩ := hz9.box 0 rfl
                        have hlt := (Array.getElem?_eq_some_iff.1 hbx).1
                        have hne : B12 ≠ w9.heap.size := by omega
                        have a0 : w9.cell? ⟨B12, 0, none⟩ = some (.int .i64 q.id) := box_cell hbx 0
                        have a1 : w9.cell? ⟨B12, 1, none⟩ = some (.int .i64 q.src) := box_cell hbx 1
                        have a2 : w9.cell? ⟨B12, 2, none⟩ = some (.int .i64 q.dst) := box_cell hbx 2
                        have a3 : w9.cell? ⟨B12, 3, none⟩ = some (.string q.data) := box_cell hbx 3
                        have a4 : w9.cell? ⟨B12, 4, none⟩ = some (.int .i64 q.due) := box_cell hbx 4
                        obtain ⟨hr4, hb4⟩ := hbo.out.1.alive hr0 hqd.out hqp.out hql.out hcl.out hr3.out
                        obtain ⟨rfl, rfl⟩ : ok3 = true ∧ q = q3 := by
                          cases ok3
                          · simp at hr4
                          · exact ⟨rfl, by simpa using hr4.symm⟩
                        have hlat : Hid (Later0 (withL sn l3) t) := Lib.hid (fun h p hp => hbo.out.2 h p (hr3.out.sub.2.1 p hp))
                        replace hb4 := Lib.hid hb4
                        clear hcn hz9 hbx hr3 hr4 hr0 hbo hqd hqp hql hcl hz8
                        simp only [pkArr] at hz10
                        go_wp2_with fail
                        go_roundw
                        case rel => exact ⟨_, _, hz10, Lib.hid ⟨hb4.out, hlat.out⟩⟩
                        case measure =>
                          have e1 := lenAt_zoo hz10.out 0 b2 _ rfl
                          have e2 := hms.out
                          have e3 := hlq.out
                          show lenAt (w9.alloc _) b2 < lenAt _ b2
                          rw [e1, e2]
                          show l2.length < _
                          omega
                    · clear hx2
                      rcases hx3 with hx3 | hx3
                      · rcases hx4 with hx4 | hx4
                        · have hdead : Hid (Both sn (withL sm l2) t0 t (cutNew x y).C ∧ Later0 sn t) := Lib.hid ⟨hbo.out.1.dead hr0 hqp.out (by rw [hC]; simp only [beq_iff_eq] at *; simp [*]), hbo.out.2⟩
                          clear hcn hC hr hr0 hbo hqd hql hqp hqp0
                          go_wp2_with fail
                          go_roundw
                          case rel => exact ⟨_, _, hz8, hdead⟩
                          case measure =>
                            have e1 := lenAt_zoo hz8.out 0 b2 _ rfl
                            have e2 := hms.out
                            have e3 := hlq.out
                            show lenAt (w7.alloc _) b2 < lenAt _ b2
                            rw [e1, e2]
                            show l2.length < _
                            omega
                        · have hcl : (cutNew x y).C (lo q.src q.dst) (Go.Proofs.Ytjopbglimjhefaa.hi q.src q.dst) = false := by
                            have y1 := hx1
                            have y2 : x ≠ y := hxy
                            rw [hC, Bool.or_eq_false_iff]
                            simp only [beq_iff_eq, beq_eq_false_iff_ne, ne_eq] at *
                            exact ⟨decide_eq_false (by omega), decide_eq_false (by omega)⟩
                          replace hcl := Lib.hid hcl
                          clear hC hr hqp0
                          go_wp2_with fail
                          refine hcn.out.mono ?_
                          rintro e w9 ⟨ok3, q3, l3, rfl, hr3, hz9⟩
                          generalize w7.heap.size = B12 at hz9 ⊢
                          replace hz9 : Zoo w1 w9 [boxT B12 (pkArr q) 30, netT b2 (withL sm l2), netT b1 (withL sn l3)] := hz9
                          have hz10 := Lib.hid (hz9.tail.alloc (.cells (pkArr q) 30))
                          obtain ⟨hbx, -⟩ := hz9.box 0 rfl
                          have hlt := (Array.getElem?_eq_some_iff.1 hbx).1
                          have hne : B12 ≠ w9.heap.size := by omega
                          have a0 : w9.cell? ⟨B12, 0, none⟩ = some (.int .i64 q.id) := box_cell hbx 0
                          have a1 : w9.cell? ⟨B12, 1, none⟩ = some (.int .i64 q.src) := box_cell hbx 1
                          have a2 : w9.cell? ⟨B12, 2, none⟩ = some (.int .i64 q.dst) := box_cell hbx 2
                          have a3 : w9.cell? ⟨B12, 3, none⟩ = some (.string q.data) := box_cell hbx 3
                          have a4 : w9.cell? ⟨B12, 4, none⟩ = some (.int .i64 q.due) := box_cell hbx 4
                          obtain ⟨hr4, hb4⟩ := hbo.out.1.alive hr0 hqd.out hqp.out hql.out hcl.out hr3.out
                          obtain ⟨rfl, rfl⟩ : ok3 = true ∧ q = q3 := by
                            cases ok3
                            · simp at hr4
                            · exact ⟨rfl, by simpa using hr4.symm⟩
                          have hlat : Hid (Later0 (withL sn l3) t) := Lib.hid (fun h p hp => hbo.out.2 h p (hr3.out.sub.2.1 p hp))
                          replace hb4 := Lib.hid hb4
                          clear hcn hz9 hbx hr3 hr4 hr0 hbo hqd hqp hql hcl hz8
                          simp only [pkArr] at hz10
                          go_wp2_with fail
                          go_roundw
                          case rel => exact ⟨_, _, hz10, Lib.hid ⟨hb4.out, hlat.out⟩⟩
                          case measure =>
                            have e1 := lenAt_zoo hz10.out 0 b2 _ rfl
                            have e2 := hms.out
                            have e3 := hlq.out
                            show lenAt (w9.alloc _) b2 < lenAt _ b2
                            rw [e1, e2]
                            show l2.length < _
                            omega
                      · clear hx4
                        have hcl : (cutNew x y).C (lo q.src q.dst) (Go.Proofs.Ytjopbglimjhefaa.hi q.src q.dst) = false := by
                          have y1 := hx1
                          have y2 : x ≠ y := hxy
                          rw [hC, Bool.or_eq_false_iff]
                          simp only [beq_iff_eq, beq_eq_false_iff_ne, ne_eq] at *
                          exact ⟨decide_eq_false (by omega), decide_eq_false (by omega)⟩
                        replace hcl := Lib.hid hcl
                        clear hC hr hqp0
                        go_wp2_with fail
                        refine hcn.out.mono ?_
                        rintro e w9 ⟨ok3, q3, l3, rfl, hr3, hz9⟩
                        generalize w7.heap.size = B12 at hz9 ⊢
                        replace hz9 : Zoo w1 w9 [boxT B12 (pkArr q) 30, netT b2 (withL sm l2), netT b1 (withL sn l3)] := hz9
                        have hz10 := Lib.hid (hz9.tail.alloc (.cells (pkArr q) 30))
                        obtain ⟨hbx, -⟩ := hz9.box 0 rfl
                        have hlt := (Array.getElem?_eq_some_iff.1 hbx).1
                        have hne : B12 ≠ w9.heap.size := by omega
                        have a0 : w9.cell? ⟨B12, 0, none⟩ = some (.int .i64 q.id) := box_cell hbx 0
                        have a1 : w9.cell? ⟨B12, 1, none⟩ = some (.int .i64 q.src) := box_cell hbx 1
                        have a2 : w9.cell? ⟨B12, 2, none⟩ = some (.int .i64 q.dst) := box_cell hbx 2
                        have a3 : w9.cell? ⟨B12, 3, none⟩ = some (.string q.data) := box_cell hbx 3
                        have a4 : w9.cell? ⟨B12, 4, none⟩ = some (.int .i64 q.due) := box_cell hbx 4
                        obtain ⟨hr4, hb4⟩ := hbo.out.1.alive hr0 hqd.out hqp.out hql.out hcl.out hr3.out
                        obtain ⟨rfl, rfl⟩ : ok3 = true ∧ q = q3 := by
                          cases ok3
                          · simp at hr4
                          · exact ⟨rfl, by simpa using hr4.symm⟩
                        have hlat : Hid (Later0 (withL sn l3) t) := Lib.hid (fun h p hp => hbo.out.2 h p (hr3.out.sub.2.1 p hp))
                        replace hb4 := Lib.hid hb4
                        clear hcn hz9 hbx hr3 hr4 hr0 hbo hqd hqp hql hcl hz8
                        simp only [pkArr] at hz10
                        go_wp2_with fail
                        go_roundw
                        case rel => exact ⟨_, _, hz10, Lib.hid ⟨hb4.out, hlat.out⟩⟩
                        case measure =>
                          have e1 := lenAt_zoo hz10.out 0 b2 _ rfl
                          have e2 := hms.out
                          have e3 := hlq.out
                          show lenAt (w9.alloc _) b2 < lenAt _ b2
                          rw [e1, e2]
                          show l2.length < _
                          omega
            · have ht' : (160 : Int) < (t : Int) := by omega
              obtain rfl : t = 161 := by omega
              have hnil := hbo.out.1.done (by omega) hbo.out.2
              have hcall := Lib.hid (all_zoo hz.out 1 b1 sn rfl hbo.out.1.n.len (fun p hp => by rw [hnil] at hp; simp at hp))
              clear hz hbo
              go_wp2_with fail
              refine hcall.out.mono ?_
              rintro e w8 ⟨va, la, rfl, hla, hz4⟩
              obtain ⟨aq, cq, hva⟩ := (hz4.row 0 rfl).len
              have hl2 := hla.out.1.length_eq
              rw [hnil] at hl2
              subst hva
              rw [hl2]
              have hB := Lib.hid (hB1.out.trans (hz4.bel.mono hB1.out.size))
              clear hcall hz4 hla hl2
              go_wp2_with fail
              go_ret
              exact ⟨rfl, hB.out⟩
theorem netCuts_card (v : Value) (x y : Int) (_ : (Lit.int .i64 x).wf = true) (_ : (Lit.int .i64 y).wf = true) (W : World) (h : ∃ ks : List ActD, ActsIn W v ks ∧ ks.length ≤ 9223372036854775807) : Calls Try.prog 5 #[v, .int .i64 x, .int .i64 y] W fun e w' => e = .returned (.bool true) ∧ Below W.heap.size W w' := by
  obtain ⟨ks, h, hb⟩ := h
  exact netCuts_any v ks x y W h (by omega)
end Go.Proofs.Ytjopbglimjhefaa
