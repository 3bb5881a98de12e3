/- The reference's Norm: walked. -/
import Derived.Test.YtifpmcfadmmkiaaDoorPdL
namespace Go.Proofs.YtifpmcfadmmkiaaDoor
open Go.RowKit Go.ChangeShapes Go.WideShapes Go.ChangeAt

set_option maxRecDepth 100000 in
set_option maxHeartbeats 8000000 in
theorem refNorm_any (of ts : List Nat) (rs : List Rng) (v : Value) (w : World) (hr : Rd w v of.length (of.map encU)) (hol : of.length ≤ 1000000) (hts : ∀ x, x ∈ ts ↔ 0 < x ∧ x ∈ of) (hu : ∀ x ∈ of, x < 18446744073709551616) (hin : NInv ts rs) (hrl : rs.length ≤ 1000000) :
    Calls Tryd.prog 14 #[v] w fun e w' => ∃ v', e = .returned v' ∧ Hid (OwnR w' w.heap.size v' rs) ∧ Hid (Below w.heap.size w w') := by
  have hr0 := Lib.hid hr
  obtain ⟨ao, cap, rfl, -⟩ := hr
  have hbest := Lib.hid (fun k hk => hin.best hts (k := k) hk)
  have hbest0 := Lib.hid (hin.best0 hts)
  have hext := Lib.hid (fun k hk c => hin.ext hts (k := k) hk (c := c))
  have hone := Lib.hid (fun k (hk : k < rs.length) => hin.one _ (List.getElem_mem hk))
  have htop := Lib.hid (fun k (hk : k < rs.length) => hin.top (fun t ht => hu t ((hts t).1 ht).2) hk)
  replace hu := Lib.hid hu
  clear hin hts
  go_enter Tryd.func14, Tryd.ntmps14
  go_wp2_with fail
  go_loopw [3, 4] (fun v3 v4 wr => ∃ k : Nat, k ≤ rs.length ∧ v4 = .int .u64 (lastAt rs k : Nat) ∧ Hid (OwnR wr w.heap.size v3 (rs.take k)) ∧ Hid (Below w.heap.size w wr)) (fun v3 _ _ => rs.length - lenV v3)
  case atStart => exact ⟨0, Nat.zero_le _, rfl, Lib.hid (OwnR.nil _ _), Lib.hid (Below.refl _ _)⟩
  case round =>
    obtain ⟨k, hk, rfl, hown, hbw⟩ := hrel
    have hrdw := Lib.hid (hr0.out.below hbw.out)
    have hbk : Hid (∀ (h : k < rs.length), bestOf of (lastAt rs k) of.length = rs[k].1) := Lib.hid (fun h => hbest.out k h)
    have hbk0 : Hid (k = rs.length → bestOf of (lastAt rs k) of.length = 0) := Lib.hid (fun h => by rw [h]; exact hbest0.out)
    generalize lastAt rs k = last at hbk hbk0 ⊢
    go_wp2_with fail
    go_loopw [5, 6] (fun v5 v6 wr2 => ∃ i : Nat, v6 = .int .i64 i ∧ i ≤ of.length ∧ v5 = .int .u64 (bestOf of last i : Nat) ∧ wr2 = wr) (fun _ v6 _ => of.length - (intOf v6).toNat)
    case atStart => exact ⟨0, rfl, Nat.zero_le _, rfl, rfl⟩
    case round =>
      obtain ⟨i, rfl, hi, rfl, rfl⟩ := hrel
      by_cases hlt : i < of.length
      · have hl1 : (i : Int) < (of.length : Int) := by omega
        have hst := Lib.hid (bestOf_step (last := last) hlt)
        obtain ⟨b, o, c', hv, hbl, ca⟩ := rd_at hrdw.out hlt
        injection hv with q1 q2 q3
        subst q1 q3
        have hyu : of[i] < 18446744073709551616 := hu.out _ (List.getElem_mem hlt)
        generalize of[i] = y at ca hst hyu
        generalize bestOf of last i = best at hst ⊢
        by_cases hA : last < y
        · obtain ⟨z, hz⟩ : ∃ z, y - 1 = z := ⟨_, rfl⟩
          have hw : IntKind.u64.wrap ((y : Int) - 1) = (z : Int) := by rw [IntKind.wrap_u64]; omega
          have d1 : decide ((last : Int) < (y : Int)) = true := decide_eq_true (by omega)
          have d1n : decide (last < y) = true := decide_eq_true hA
          have hcall := in_any of _ z _ rfl _ hrdw.out (by omega)
          obtain ⟨I, hI⟩ : ∃ I, decide (z ∈ of) = I := ⟨_, rfl⟩
          rw [hI] at hcall
          replace hcall := Lib.hid hcall
          cases I
          · have hzn : z ∉ of := by simpa using hI
            rcases Nat.eq_zero_or_pos best with hb0 | hb0
            · subst hb0
              by_cases h1 : y = 1
              · have e1 : ((y : Int) == 1) = true := by rw [beq_iff_eq]; omega
                have e2 : ((last : Int) == 0) = true := by rw [beq_iff_eq]; omega
                have hv := Lib.hid (hst.out.trans (bs_one ⟨h1, by omega⟩))
                clear hst hA h1 hyu hz hI hzn
                go_wp2_with fail
                refine hcall.out.mono ?_
                rintro e w5 ⟨rfl, rfl⟩
                go_wp2_with fail
                go_roundw
                case rel => exact ⟨i + 1, by go_num, by omega, by rw [hv.out]; rfl, by trivial⟩
                case measure => simp [intOf] <;> omega
              · have e1 : ((y : Int) == 1) = false := by rw [beq_eq_false_iff_ne]; omega
                have hv := Lib.hid (hst.out.trans (bs_set (fun h => h1 h.1) ⟨hA, by rw [hz]; exact hzn, .inl rfl⟩))
                clear hst hA h1 hyu hz hI hzn
                go_wp2_with fail
                refine hcall.out.mono ?_
                rintro e w5 ⟨rfl, rfl⟩
                go_wp2_with fail
                go_roundw
                case rel => exact ⟨i + 1, by go_num, by omega, by rw [hv.out], by trivial⟩
                case measure => simp [intOf] <;> omega
            · have e0 : ((best : Int) == 0) = false := by rw [beq_eq_false_iff_ne]; omega
              by_cases hyb : y < best
              · have d2 : decide ((y : Int) < (best : Int)) = true := decide_eq_true (by omega)
                have d2n : decide (y < best) = true := decide_eq_true hyb
                by_cases h1 : y = 1
                · have e1 : ((y : Int) == 1) = true := by rw [beq_iff_eq]; omega
                  have e2 : ((last : Int) == 0) = true := by rw [beq_iff_eq]; omega
                  have hv := Lib.hid (hst.out.trans (bs_one ⟨h1, by omega⟩))
                  clear hst hA h1 hyu hz hI hzn hb0 hyb
                  go_wp2_with fail
                  refine hcall.out.mono ?_
                  rintro e w5 ⟨rfl, rfl⟩
                  go_wp2_with fail
                  go_roundw
                  case rel => exact ⟨i + 1, by go_num, by omega, by rw [hv.out]; rfl, by trivial⟩
                  case measure => simp [intOf] <;> omega
                · have e1 : ((y : Int) == 1) = false := by rw [beq_eq_false_iff_ne]; omega
                  have hv := Lib.hid (hst.out.trans (bs_set (fun h => h1 h.1) ⟨hA, by rw [hz]; exact hzn, .inr hyb⟩))
                  clear hst hA h1 hyu hz hI hzn hb0 hyb
                  go_wp2_with fail
                  refine hcall.out.mono ?_
                  rintro e w5 ⟨rfl, rfl⟩
                  go_wp2_with fail
                  go_roundw
                  case rel => exact ⟨i + 1, by go_num, by omega, by rw [hv.out], by trivial⟩
                  case measure => simp [intOf] <;> omega
              · have d2 : decide ((y : Int) < (best : Int)) = false := decide_eq_false (by omega)
                have d2n : decide (y < best) = false := decide_eq_false hyb
                by_cases h1 : y = 1
                · have e1 : ((y : Int) == 1) = true := by rw [beq_iff_eq]; omega
                  have e2 : ((last : Int) == 0) = true := by rw [beq_iff_eq]; omega
                  have hv := Lib.hid (hst.out.trans (bs_one ⟨h1, by omega⟩))
                  clear hst hA h1 hyu hz hI hzn hb0 hyb
                  go_wp2_with fail
                  refine hcall.out.mono ?_
                  rintro e w5 ⟨rfl, rfl⟩
                  go_wp2_with fail
                  go_roundw
                  case rel => exact ⟨i + 1, by go_num, by omega, by rw [hv.out]; rfl, by trivial⟩
                  case measure => simp [intOf] <;> omega
                · have e1 : ((y : Int) == 1) = false := by rw [beq_eq_false_iff_ne]; omega
                  have hv := Lib.hid (hst.out.trans (bs_keep (fun h => h1 h.1) (fun h => by omega)))
                  clear hst hA h1 hyu hz hI hzn hb0 hyb
                  go_wp2_with fail
                  refine hcall.out.mono ?_
                  rintro e w5 ⟨rfl, rfl⟩
                  go_wp2_with fail
                  go_roundw
                  case rel => exact ⟨i + 1, by go_num, by omega, by rw [hv.out], by trivial⟩
                  case measure => simp [intOf] <;> omega
          · have hzy : z ∈ of := by simpa using hI
            by_cases h1 : y = 1
            · have e1 : ((y : Int) == 1) = true := by rw [beq_iff_eq]; omega
              have e2 : ((last : Int) == 0) = true := by rw [beq_iff_eq]; omega
              have hv := Lib.hid (hst.out.trans (bs_one ⟨h1, by omega⟩))
              clear hst hA h1 hyu hz hI hzy
              go_wp2_with fail
              refine hcall.out.mono ?_
              rintro e w5 ⟨rfl, rfl⟩
              go_wp2_with fail
              go_roundw
              case rel => exact ⟨i + 1, by go_num, by omega, by rw [hv.out]; rfl, by trivial⟩
              case measure => simp [intOf] <;> omega
            · have e1 : ((y : Int) == 1) = false := by rw [beq_eq_false_iff_ne]; omega
              have hv := Lib.hid (hst.out.trans (bs_keep (fun h => h1 h.1) (fun h => h.2.1 (by rw [hz]; exact hzy))))
              clear hst hA h1 hyu hz hI hzy
              go_wp2_with fail
              refine hcall.out.mono ?_
              rintro e w5 ⟨rfl, rfl⟩
              go_wp2_with fail
              go_roundw
              case rel => exact ⟨i + 1, by go_num, by omega, by rw [hv.out], by trivial⟩
              case measure => simp [intOf] <;> omega
        · have d1 : decide ((last : Int) < (y : Int)) = false := decide_eq_false (by omega)
          have d1n : decide (last < y) = false := decide_eq_false hA
          by_cases h1 : y = 1
          · have e1 : ((y : Int) == 1) = true := by rw [beq_iff_eq]; omega
            have e2 : ((last : Int) == 0) = false := by rw [beq_eq_false_iff_ne]; omega
            have hv := Lib.hid (hst.out.trans (bs_keep (by omega) (fun h => hA h.1)))
            clear hst hA h1 hyu
            go_wp2_with fail
            go_roundw
            case rel => exact ⟨i + 1, by go_num, by omega, by rw [hv.out], by trivial⟩
            case measure => simp [intOf] <;> omega
          · have e1 : ((y : Int) == 1) = false := by rw [beq_eq_false_iff_ne]; omega
            have hv := Lib.hid (hst.out.trans (bs_keep (by omega) (fun h => hA h.1)))
            clear hst hA h1 hyu
            go_wp2_with fail
            go_roundw
            case rel => exact ⟨i + 1, by go_num, by omega, by rw [hv.out], by trivial⟩
            case measure => simp [intOf] <;> omega
      · obtain rfl : i = of.length := by omega
        by_cases hkl : k < rs.length
        · rw [hbk.out hkl]
          have h1 := hone.out k hkl
          have ht := (htop.out k hkl).2
          have hex := Lib.hid (fun c => hext.out k hkl c)
          have htk : Hid (rs.take (k + 1) = rs.take k ++ [rs[k]]) := Lib.hid (List.take_succ_eq_append_getElem hkl)
          have hls : Hid (lastAt rs (k + 1) = rs[k].2) := Lib.hid (lastAt_succ hkl)
          clear hbk hbk0
          generalize rs[k] = r at h1 ht hex htk hls ⊢
          obtain ⟨f, t⟩ := r
          dsimp only at h1 ht ⊢
          have h2 := Lib.hid h1
          clear h1
          have e0 : ((f : Int) == 0) = false := by have := h2.out; rw [beq_eq_false_iff_ne]; omega
          have hol2 : (rs.take k).length = k := by rw [List.length_take]; omega
          replace hol2 := Lib.hid hol2
          obtain ⟨outl, hou⟩ : ∃ l, rs.take k = l := ⟨_, rfl⟩
          rw [hou] at hown htk hol2
          clear hou
          have hol3 : outl.length ≤ 1000000 := by have := hol2.out; omega
          have hsz := hbw.out.size
          go_wp2_with fail
          go_loopw [4] (fun v4 wr2 => ∃ c : Nat, v4 = .int .u64 c ∧ f ≤ c ∧ c ≤ t ∧ wr2 = wr) (fun v4 _ => t - (intOf v4).toNat)
          case atStart => exact ⟨f, rfl, Nat.le_refl _, h2.out.2, rfl⟩
          case round =>
            obtain ⟨c, rfl, hc1, hc2, rfl⟩ := hrel
            have hx := hex.out c hc1 hc2
            have hcall := in_any of _ (c + 1) ((c : Int) + 1) (by omega) _ hrdw.out (by omega)
            rw [hx] at hcall
            try dsimp only at hcall
            by_cases hct : c < t
            · rw [decide_eq_true hct] at hcall
              replace hcall := Lib.hid hcall
              have d1 : decide ((c : Int) < 18446744073709551615) = true := decide_eq_true (by omega)
              have hw : IntKind.u64.wrap ((c : Int) + 1) = (c : Int) + 1 := by rw [IntKind.wrap_u64]; omega
              have hc3 := Lib.hid (And.intro hc1 hct)
              clear hc1 hc2 hx hct ht
              go_wp2_with fail
              refine hcall.out.mono ?_
              rintro e w5 ⟨rfl, rfl⟩
              go_wp2_with fail
              go_roundw
              case rel => exact ⟨c + 1, by go_num, by have := hc3.out; omega, by have := hc3.out; omega, by trivial⟩
              case measure => have := hc3.out; simp [intOf] <;> omega
            · rw [decide_eq_false hct] at hcall
              obtain rfl : c = t := by omega
              replace hcall := Lib.hid hcall
              by_cases hcm : c < 18446744073709551615
              · have d1 : decide ((c : Int) < 18446744073709551615) = true := decide_eq_true (by omega)
                have hw : IntKind.u64.wrap ((c : Int) + 1) = (c : Int) + 1 := by rw [IntKind.wrap_u64]; omega
                clear hc1 hc2 hx hct ht hcm
                go_wp2_with fail
                refine hcall.out.mono ?_
                rintro e w5 ⟨rfl, hw5⟩
                obtain rfl : wr = w5 := hw5.symm
                clear hcall hw5
                go_wp2_with (at_builtin; refine wpList_append_range (W := wr) rfl _ _ rfl w.heap.size u3 outl f c rfl rfl hown.out (by omega) hsz ?_)
                intro v3 w4 ho4 hb4
                have hB4 := Lib.hid (hbw.out.trans hb4)
                have ho5 : Hid (OwnR w4 w.heap.size v3 (rs.take (k + 1))) := Lib.hid (by rw [htk.out]; exact ho4)
                obtain ⟨aa, ca, hva⟩ := ho4.len
                have hm : Hid (lenV v3 = outl.length + 1 ∧ lenV u3 = outl.length) := Lib.hid ⟨by rw [hva, List.length_append]; rfl, by obtain ⟨a1, c1, h1⟩ := hown.out.len; rw [h1]; rfl⟩
                clear hva ho4 hb4
                go_wp2_with fail
                go_roundw
                case rel => exact ⟨k + 1, hkl, by rw [hls.out], ho5, hB4⟩
                case measure =>
                  have h9 := hm.out
                  have h8 := hol2.out
                  omega
              · have d1 : decide ((c : Int) < 18446744073709551615) = false := decide_eq_false (by omega)
                clear hc1 hc2 hx hct ht hcm
                go_wp2_with (at_builtin; refine wpList_append_range (W := wr) rfl _ _ rfl w.heap.size u3 outl f c rfl rfl hown.out (by omega) hsz ?_)
                intro v3 w4 ho4 hb4
                have hB4 := Lib.hid (hbw.out.trans hb4)
                have ho5 : Hid (OwnR w4 w.heap.size v3 (rs.take (k + 1))) := Lib.hid (by rw [htk.out]; exact ho4)
                obtain ⟨aa, ca, hva⟩ := ho4.len
                have hm : Hid (lenV v3 = outl.length + 1 ∧ lenV u3 = outl.length) := Lib.hid ⟨by rw [hva, List.length_append]; rfl, by obtain ⟨a1, c1, h1⟩ := hown.out.len; rw [h1]; rfl⟩
                clear hva ho4 hb4
                go_wp2_with fail
                go_roundw
                case rel => exact ⟨k + 1, hkl, by rw [hls.out], ho5, hB4⟩
                case measure =>
                  have h9 := hm.out
                  have h8 := hol2.out
                  omega
        · obtain rfl : k = rs.length := by omega
          rw [hbk0.out rfl]
          rw [List.take_length] at hown
          clear hbk hbk0
          go_wp2_with fail
          go_ret
          exact ⟨_, rfl, hown, hbw⟩
end Go.Proofs.YtifpmcfadmmkiaaDoor
