/- run: walked. -/
import Derived.Test.YtjopbglimjhefaaNeR
namespace Go.Proofs.Ytjopbglimjhefaa
open Go.RowKit Go.Maps Go.WideMaps

theorem take_act {acts : List ActD} {k : Nat} (h : k < acts.length) : acts.take (k + 1) = acts.take k ++ [acts[k]] := List.take_succ_eq_append_getElem h
theorem box5 {W : World} {B : Nat} {x : ActD} {t : TypeId} (h : W.heap[B]? = some (.cells (actCells x).toArray t (0, 0))) : W.cell? ⟨B, 0, none⟩ = some (.int .i64 x.kind) ∧ W.cell? ⟨B, 1, none⟩ = some (.int .i64 x.a) ∧ W.cell? ⟨B, 2, none⟩ = some (.int .i64 x.b) ∧ W.cell? ⟨B, 3, none⟩ = some (.int .i64 x.n) ∧ W.cell? ⟨B, 4, none⟩ = some (.string x.s) :=
  ⟨box_cell h 0, box_cell h 1, box_cell h 2, box_cell h 3, box_cell h 4⟩
theorem next_zoo2 {W0 W : World} {L : List Th} (h : Zoo W0 W L) (i b : Nat) (s : Ns) (hi : L[i]? = some (netT b s)) (hl : s.l.length ≤ 512) (hg : Good s.l) :
    Calls Try.prog 13 #[.pointer (some ⟨b, 0, none⟩)] W fun e w' => ∃ (ok : Bool) (q : Pk) (l2 : List Pk), e = .returned (.tuple #[.agg #[.int .i64 q.id, .int .i64 q.src, .int .i64 q.dst, .string q.data, .int .i64 q.due], .bool ok]) ∧ Hid (NextR s.now s.C s.l (if ok = true then Option.some q else Option.none) l2) ∧ Zoo W0 w' (L.set i (netT b (withL s l2))) := by
  refine (next_zoo h i b s hi hl hg).mono ?_
  rintro e w' ⟨r, l2, rfl, hr, hz⟩
  cases r with
  | none => exact ⟨false, Pk.zero, l2, rfl, hr, hz⟩
  | some q => exact ⟨true, q, l2, rfl, hr, hz⟩
def RunRet (W0 : World) (L : List Th) (b : Nat) (s : Ns) (acts : List ActD) (e : Ending) (w' : World) : Prop :=
  ∃ vs vc sn cm s', e = .returned (.tuple #[vs, vc]) ∧ Hid (Zoo W0 w' (netT b s' :: rowP vs sn :: rowP vc cm :: L)) ∧ Hid (RunR s (acts.take 200) s' sn cm)
theorem RunR.next {s : Ns} {acts : List ActD} {k : Nat} {s1 s2 : Ns} {sn cm sn1 cm1 : List Pk} (h : RunR s (acts.take k) s1 sn cm) (hk : k < acts.length) (ha : ActR s1 acts[k] s2 sn1 cm1) : RunR s (acts.take (k + 1)) s2 (sn ++ sn1) (cm ++ cm1) := by
  rw [take_act hk]; exact h.snoc ha
theorem RunR.next0 {s : Ns} {acts : List ActD} {k : Nat} {s1 s2 : Ns} {sn cm : List Pk} (h : RunR s (acts.take k) s1 sn cm) (hk : k < acts.length) (ha : ActR s1 acts[k] s2 [] []) : RunR s (acts.take (k + 1)) s2 sn cm := by
  have := h.next hk ha
  simpa using this
set_option maxRecDepth 100000 in
set_option maxHeartbeats 4000000 in
theorem run_any {W0 W : World} {L : List Th} (b : Nat) (s : Ns) (v : Value) (acts : List ActD) (hk : NOk s 1000) (hz : Zoo W0 W (netT b s :: L)) (hin : ActsIn W v acts) (hact : ∀ W', Zoo W0 W' L → ActsIn W' v acts) :
    Calls Try.prog 9 #[.pointer (some ⟨b, 0, none⟩), v] W (RunRet W0 L b s acts) := by
  obtain ⟨ao, cap, rfl, -⟩ := hin
  have hz0 : Hid (Zoo W0 W (netT b s :: rowP (.slice none 0 0) [] :: rowP (.slice none 0 0) [] :: L)) := Lib.hid hz.bareRow.swap.bareRow.swap
  replace hact := Lib.hid hact
  go_enter Try.func9, Try.ntmps9
  go_wp2_with fail
  go_loopw [6, 7, 8] (fun v6 v7 v8 wr => ∃ (k : Nat) (s1 : Ns) (sn cm : List Pk), v8 = .int .i64 k ∧ k ≤ acts.length ∧ k ≤ 200 ∧ Hid (Zoo W0 wr (netT b s1 :: rowP v6 sn :: rowP v7 cm :: L)) ∧ Hid (RunR s (acts.take k) s1 sn cm)) (fun _ _ v8 _ => acts.length - (intOf v8).toNat)
  case atStart => exact ⟨0, s, [], [], rfl, Nat.zero_le _, Nat.zero_le _, hz0, Lib.hid RunR.nil⟩
  case round =>
    clear hz hz0
    obtain ⟨k, s1, sn, cm, rfl, hka, hk2, hzr, hrun⟩ := hrel
    by_cases hlt : k < acts.length
    · have hl1 : (k : Int) < (acts.length : Int) := by omega
      by_cases h2 : k < 200
      · have hl2 : (k : Int) < 200 := by omega
        obtain ⟨ao1, cap1, hv, hin⟩ := hact.out wr hzr.out.tail.tail.tail
        injection hv with hv1 hv2 hv3
        subst hv1 hv3
        rcases hin with h0 | ⟨B, o, rfl, hB, hcell⟩
        · rw [h0] at hlt; simp at hlt
        · obtain ⟨a0, a1, a2, a3, a4⟩ := hcell k hlt
          have hok := hrun.out.ok hk
          have hnow : s1.now < 1000000 := by have := hok.now; rw [List.length_take] at this; omega
          have hlast : s1.last < 1000000 := by have := hok.last; rw [List.length_take] at this; omega
          have hN : s1.N < 1000000 := by have := hok.N; rw [List.length_take] at this; omega
          have hlen := hok.len
          have hgood := hok.good
          have hBs : B ≠ wr.heap.size := by omega
          replace hnow := Lib.hid hnow
          replace hlast := Lib.hid hlast
          replace hN := Lib.hid hN
          replace hlen := Lib.hid hlen
          replace hgood := Lib.hid hgood
          have hzb := Lib.hid (hzr.out.newBox (actCells acts[k]).toArray 39)
          have hza := Lib.hid (hzr.out.alloc (.cells (actCells acts[k]).toArray 39))
          clear hcell hok hB
          obtain ⟨A, hA⟩ : ∃ A, acts[k] = A := ⟨_, rfl⟩
          rw [hA] at a0 a1 a2 a3 a4 hzb hza
          obtain ⟨kd, x, y, n, t⟩ := A
          simp only [actCells] at a0 a1 a2 a3 a4 hzb hza
          replace hA := Lib.hid hA
          by_cases hkd : kd = 0
          · subst hkd
            have hc := Lib.hid (tick_zoo hza.out 0 b s1 rfl hnow.out)
            clear hzr
            go_wp2_with fail
            refine hc.out.mono ?_
            rintro e w2 ⟨rfl, hz2⟩
            have hR := Lib.hid (hrun.out.next0 hlt (show ActR s1 acts[k] _ [] [] from by rw [hA.out]; exact .inl ⟨rfl, rfl, rfl, rfl⟩))
            clear hc hrun hA
            go_wp2_with fail
            go_roundw
            case rel => exact ⟨k + 1, _, sn, cm, by go_num, by omega, by omega, Lib.hid hz2, hR⟩
            case measure => simp [intOf] <;> omega
          · by_cases hkd3 : kd = 3
            · subst hkd3
              have hc := Lib.hid (lose_zoo hza.out 0 b s1 rfl hlen.out x)
              clear hzr
              go_wp2_with fail
              refine hc.out.mono ?_
              rintro e w2 ⟨r, s2, rfl, hl, hz2⟩
              have hR := Lib.hid (hrun.out.next0 hlt (show ActR s1 acts[k] _ [] [] from by rw [hA.out]; exact .inr (.inr (.inr (.inl ⟨rfl, ⟨r, hl.out⟩, rfl, rfl⟩)))))
              clear hc hrun hA
              go_wp2_with fail
              go_roundw
              case rel => exact ⟨k + 1, _, sn, cm, by go_num, by omega, by omega, Lib.hid hz2, hR⟩
              case measure => simp [intOf] <;> omega
            · by_cases hkd5 : kd = 5
              · subst hkd5
                have hc := Lib.hid (late_zoo hza.out 0 b s1 rfl hnow.out hlen.out x n)
                clear hzr
                go_wp2_with fail
                refine hc.out.mono ?_
                rintro e w2 ⟨r, s2, rfl, hl, hz2⟩
                have hR := Lib.hid (hrun.out.next0 hlt (show ActR s1 acts[k] _ [] [] from by rw [hA.out]; exact .inr (.inr (.inr (.inr (.inl ⟨rfl, ⟨r, hl.out⟩, rfl, rfl⟩))))))
                clear hc hrun hA
                go_wp2_with fail
                go_roundw
                case rel => exact ⟨k + 1, _, sn, cm, by go_num, by omega, by omega, Lib.hid hz2, hR⟩
                case measure => simp [intOf] <;> omega
              · by_cases hkd6 : kd = 6
                · subst hkd6
                  have hc := Lib.hid (cut_zoo hza.out 0 b s1 rfl hN.out x y true)
                  clear hzr
                  go_wp2_with fail
                  refine hc.out.mono ?_
                  rintro e w2 ⟨rfl, hz2⟩
                  have hR := Lib.hid (hrun.out.next0 hlt (show ActR s1 acts[k] _ [] [] from by rw [hA.out]; exact .inr (.inr (.inr (.inr (.inr (.inl ⟨.inl rfl, rfl, rfl, rfl⟩)))))))
                  clear hc hrun hA
                  go_wp2_with fail
                  go_roundw
                  case rel => exact ⟨k + 1, _, sn, cm, by go_num, by omega, by omega, Lib.hid hz2, hR⟩
                  case measure => simp [intOf] <;> omega
                · by_cases hkd7 : kd = 7
                  · subst hkd7
                    have hc := Lib.hid (cut_zoo hza.out 0 b s1 rfl hN.out x y false)
                    clear hzr
                    go_wp2_with fail
                    refine hc.out.mono ?_
                    rintro e w2 ⟨rfl, hz2⟩
                    have hR := Lib.hid (hrun.out.next0 hlt (show ActR s1 acts[k] _ [] [] from by rw [hA.out]; exact .inr (.inr (.inr (.inr (.inr (.inl ⟨.inr rfl, rfl, rfl, rfl⟩)))))))
                    clear hc hrun hA
                    go_wp2_with fail
                    go_roundw
                    case rel => exact ⟨k + 1, _, sn, cm, by go_num, by omega, by omega, Lib.hid hz2, hR⟩
                    case measure => simp [intOf] <;> omega
                  · by_cases hkd2 : kd = 2
                    · subst hkd2
                      have hc := Lib.hid (next_zoo2 hza.out 0 b s1 rfl hlen.out hgood.out)
                      clear hzr
                      go_wp2_with fail
                      refine hc.out.mono ?_
                      rintro e w2 ⟨ok, q, l2, rfl, hr, hz2⟩
                      have hz3 := Lib.hid (Zoo.alloc hz2 (.cells (pkArr q) 30))
                      have hR := Lib.hid (hrun.out.next hlt (show ActR s1 acts[k] _ [] _ from by rw [hA.out]; exact .inr (.inr (.inl ⟨rfl, _, l2, hr.out, rfl, rfl, rfl⟩))))
                      have hsh := hrun.out.short
                      have hcl : cm.length ≤ 100000 := by have := hsh.2; rw [List.length_take] at this; omega
                      simp only [pkArr] at hz3
                      clear hc hrun hA hsh hza hzb hr hz2
                      cases ok
                      · go_wp2_with fail
                        go_roundw
                        case rel => exact ⟨k + 1, _, sn, cm, by go_num, by omega, by omega, hz3, Lib.hid (by simpa using hR.out)⟩
                        case measure => simp [intOf] <;> omega
                      · go_wp2_with (at_builtin; refine wpList_append_pk rfl _ _ rfl hz3.out 2 u7 cm q rfl rfl _ rfl (by simp) hcl ?_)
                        intro v7 w4 hz4
                        replace hz4 := Lib.hid hz4
                        clear hz3
                        go_wp2_with fail
                        go_roundw
                        case rel => exact ⟨k + 1, _, sn, _, by go_num, by omega, by omega, hz4, Lib.hid (by simpa using hR.out)⟩
                        case measure => simp [intOf] <;> omega
                    · by_cases hkd1 : kd = 1
                      · subst hkd1
                        have hc := send_zoo hzb.out 1 b s1 rfl hnow.out hlast.out hlen.out x y t n
                        obtain ⟨⟨i1, e1, s2⟩, hr⟩ : ∃ r, sendS s1 x y t n = r := ⟨_, rfl⟩
                        rw [hr] at hc
                        dsimp only at hc
                        replace hc := Lib.hid hc
                        replace hr := Lib.hid hr
                        clear hzr
                        go_wp2_with fail
                        refine hc.out.mono ?_
                        rintro e w2 ⟨rfl, hz2⟩
                        obtain ⟨hbx, -⟩ := Zoo.box hz2 0 rfl
                        have hz3 : Hid (Zoo W0 w2 (netT b s2 :: rowP u6 sn :: rowP u7 cm :: L)) := Lib.hid (Zoo.tail hz2)
                        have hsh := hrun.out.short
                        have hcl : sn.length ≤ 100000 := by have := hsh.1; rw [List.length_take] at this; omega
                        have c0 := box_cell hbx 0
                        have c1 := box_cell hbx 1
                        have c2 := box_cell hbx 2
                        have c3 := box_cell hbx 3
                        have c4 := box_cell hbx 4
                        have hne := (Array.getElem?_eq_some_iff.1 hbx).1
                        generalize wr.heap.size = B1 at c0 c1 c2 c3 c4 hne ⊢
                        have hne2 : B1 ≠ w2.heap.size := by omega
                        simp at c0 c1 c2 c3 c4
                        clear hc hsh hza hzb hz2 hbx hne
                        by_cases he : e1 = 0
                        · subst he
                          have hR := Lib.hid (hrun.out.next (sn1 := [⟨i1, x, y, t, 0⟩]) (cm1 := []) (s2 := s2) hlt (by rw [hA.out]; exact .inr (.inl ⟨rfl, by simp only [hr.out], by simp only [hr.out]; rfl, rfl⟩)))
                          clear hrun hA hr
                          go_wp2_with (at_builtin; refine wpList_append_pk rfl _ _ rfl hz3.out 1 u6 sn ⟨i1, x, y, t, 0⟩ rfl rfl _ rfl (by simp) hcl ?_)
                          intro v6 w4 hz4
                          replace hz4 := Lib.hid hz4
                          clear hz3
                          go_wp2_with fail
                          go_roundw
                          case rel => exact ⟨k + 1, s2, _, cm, by go_num, by omega, by omega, hz4, Lib.hid (by simpa using hR.out)⟩
                          case measure => simp [intOf] <;> omega
                        · have he' : (e1 == 0) = false := by simpa using he
                          have hR := Lib.hid (hrun.out.next0 (s2 := s2) hlt (by rw [hA.out]; exact .inr (.inl ⟨rfl, by simp only [hr.out], by simp only [hr.out]; rw [if_neg he], rfl⟩)))
                          clear hrun hA hr
                          go_wp2_with fail
                          go_roundw
                          case rel => exact ⟨k + 1, s2, sn, cm, by go_num, by omega, by omega, hz3, hR⟩
                          case measure => simp [intOf] <;> omega
                      · have e0 : (kd == 0) = false := by simpa using hkd
                        have e1 : (kd == 1) = false := by simpa using hkd1
                        have e2 : (kd == 2) = false := by simpa using hkd2
                        have e3 : (kd == 3) = false := by simpa using hkd3
                        have e5 : (kd == 5) = false := by simpa using hkd5
                        have e6 : (kd == 6) = false := by simpa using hkd6
                        have e7 : (kd == 7) = false := by simpa using hkd7
                        have hR := Lib.hid (hrun.out.next0 (s2 := s1) hlt (by rw [hA.out]; exact .inr (.inr (.inr (.inr (.inr (.inr ⟨⟨hkd, hkd1, hkd2, hkd3, hkd5, hkd6, hkd7⟩, rfl, rfl, rfl⟩)))))))
                        clear hrun hA hzr hkd hkd1 hkd2 hkd3 hkd5 hkd6 hkd7
                        go_wp2_with fail
                        go_roundw
                        case rel => exact ⟨k + 1, s1, sn, cm, by go_num, by omega, by omega, hza, hR⟩
                        case measure => simp [intOf] <;> omega
      · have hl2 : (200 : Int) ≤ (k : Int) := by omega
        have hR : Hid (RunR s (acts.take 200) s1 sn cm) := by
          obtain rfl : k = 200 := by omega
          exact hrun
        go_wp2_with fail
        go_ret2
        exact ⟨_, _, sn, cm, s1, rfl, hzr, hR⟩
    · have hl1 : (acts.length : Int) ≤ (k : Int) := by omega
      have hR : Hid (RunR s (acts.take 200) s1 sn cm) := Lib.hid (by
        have h1 := hrun.out
        rw [List.take_of_length_le (by omega)] at h1
        rw [List.take_of_length_le (by omega)]
        exact h1)
      go_wp2_with fail
      go_ret2
      exact ⟨_, _, sn, cm, s1, rfl, hzr, hR⟩
end Go.Proofs.Ytjopbglimjhefaa
