/- The document's Change: walked. -/
import Derived.Test.YtdobbfjmlnlieaaGreatB09
namespace Go.Proofs.YtdobbfjmlnlieaaGreat
open Go.RowKit

theorem rd_empty (w : World) : Rd w (.slice none 0 0) (fset ([] : List (List UInt8))).length ((fset ([] : List (List UInt8))).map encStr) := ⟨none, 0, rfl, .inl rfl⟩
set_option maxRecDepth 100000 in
set_option maxHeartbeats 8000000 in
theorem refChange_any (v u : Value) (l by_ : List (List UInt8)) (how : Int) (w : World) (hr : Rd w v l.length (l.map encStr)) (hu : Rd w u by_.length (by_.map encStr)) (hl : (l.length + 2) * 16 ≤ 140737488355328) (hul : (by_.length + 2) * 16 ≤ 140737488355328) (hs : Sized l) (hus : Sized by_) :
    Calls Tryz.prog 23 #[v, .int .i64 how, u] w (ChRet l how by_ w) := by
  have hr0 := Lib.hid hr
  have hu0 := Lib.hid hu
  replace hs := Lib.hid hs
  replace hus := Lib.hid hus
  obtain ⟨ao, cap, rfl, -⟩ := hr
  obtain ⟨ao2, cap2, rfl, -⟩ := hu
  go_enter Tryz.func23, Tryz.ntmps23
  go_wp2_with fail
  refine (refRight_any _ l _ hr0.out hl hs.out).mono ?_
  rintro e w1 ⟨rfl, hb1'⟩
  cases hR : rightB l
  · have hno : Hid (chOk l how by_ = false) := Lib.hid (by rw [chOk, hR]; rfl)
    replace hR := Lib.hid hR
    go_wp2_with fail
    go_ret2
    exact ch_none hno.out hb1'.out
  · replace hR := Lib.hid hR
    go_wp2_with fail
    refine (refRight_any _ by_ w1 (hu0.out.below hb1'.out) hul hus.out).mono ?_
    rintro e w2 ⟨rfl, b2⟩
    have hb2' : Hid (Below w.heap.size w w2) := Lib.hid (hb1'.out.trans (b2.out.mono hb1'.out.size))
    clear b2 hb1'
    cases hR2 : rightB by_
    · have hno : Hid (chOk l how by_ = false) := Lib.hid (by rw [chOk, hR2]; simp)
      replace hR2 := Lib.hid hR2
      go_wp2_with fail
      go_ret2
      exact ch_none hno.out hb2'.out
    · replace hR2 := Lib.hid hR2
      by_cases hlo : how < 0
      · have hno : Hid (chOk l how by_ = false) := Lib.hid (by rw [chOk, decide_eq_false (show ¬ 0 ≤ how by omega)]; simp)
        go_wp2_with fail
        go_ret2
        exact ch_none hno.out hb2'.out
      · by_cases hhi : 2 < how
        · have hno : Hid (chOk l how by_ = false) := Lib.hid (by rw [chOk, decide_eq_false (show ¬ how < 3 by omega)]; simp)
          go_wp2_with fail
          go_ret2
          exact ch_none hno.out hb2'.out
        have hokk := Lib.hid (ch_okk hR.out hR2.out (show 0 ≤ how by omega) (show how < 3 by omega))
        have hl16 := right_16 hR.out
        have hu16 := right_16 hR2.out
        clear hl hul hs hus hR hR2
        rcases (show how = 0 ∨ how = 1 ∨ how = 2 by omega) with rfl | rfl | rfl
        · clear hlo hhi
          go_wp2_with fail
          go_loopw [8, 10] (fun vo vk wr => ∃ (k : Nat), vk = .int .i64 k ∧ k ≤ by_.length ∧ Hid (Rd wr vo (fset (by_.take k)).length ((fset (by_.take k)).map encStr)) ∧ Hid (Below w.heap.size w wr)) (fun _ vk _ => by_.length - (intOf vk).toNat)
          case atStart => exact ⟨0, rfl, Nat.zero_le _, Lib.hid (rd_empty _), hb2'⟩
          case round =>
            obtain ⟨k, rfl, hk, hrd, hb⟩ := hrel
            by_cases hlt : k < by_.length
            · have hur := Lib.hid (hu0.out.below hb.out)
              obtain ⟨b, o, hao, hbl, hcell⟩ := hur.out.at_pos (by omega)
              subst hao
              have hcw : wr.cell? ⟨b, o + k, none⟩ = some (.string (mkB by_[k])) := rd_cell hcell hlt
              have hln : (fset (by_.take k)).length ≤ 60 := Nat.le_trans (setS_len flt _) (by simp; omega)
              have hwith := Lib.hid (refWith_any u8 (fset (by_.take k)) (mkB by_[k]) wr hrd.out (by omega))
              rw [mkB_list, fset_snoc, ← List.take_succ_eq_append_getElem hlt] at hwith
              generalize mkB by_[k] = X at hcw hwith
              clear hcell hrd hln
              go_wp2_with fail
              refine hwith.out.mono ?_
              rintro e w4 ⟨v4, rfl, hr4, b4⟩
              have hb4 := Lib.hid (hb.out.trans (b4.out.mono hb.out.size))
              clear b4 hwith
              go_wp2_with fail
              go_roundw
              case rel => exact ⟨k + 1, by go_num, by omega, hr4, hb4⟩
              case measure => simp [intOf]; omega
            · obtain rfl : k = by_.length := by omega
              rw [List.take_length] at hrd
              obtain ⟨a3, c3, hv3⟩ : ∃ a c, u8 = .slice a (fset by_).length c := by
                obtain ⟨a, c, h, _⟩ := hrd.out; exact ⟨a, c, h⟩
              subst hv3
              obtain ⟨F, hF⟩ : ∃ F, Hid (F = fset by_) := ⟨_, Lib.hid rfl⟩
              have hFI : Hid (F = fset (chIn l 0 by_)) := Lib.hid (by rw [hF.out]; rfl)
              have hfl : (fset by_).length ≤ (by_).length := setS_len flt _
              have hF40 : F.length ≤ 40 := by
                rw [hF.out]
                refine Nat.le_trans hfl ?_
                omega
              have hrd' : Hid (Rd wr (.slice a3 F.length c3) F.length (F.map encStr)) := Lib.hid (by rw [hF.out]; exact hrd.out)
              rw [← hF.out]
              clear hrd hF hfl
              by_cases h16 : 16 < F.length
              · go_wp2_with fail
                go_ret2
                exact ch_full hokk.out (by rw [← hFI.out]; exact h16) hb.out
              · go_wp2_with fail
                go_ret2
                exact ch_ok hokk.out (by rw [← hFI.out]; exact h16) (by rw [← hFI.out]; exact hrd'.out) hb.out
        · clear hlo hhi
          go_wp2_with fail
          go_loopw [8, 9] (fun vo vk wr => ∃ (k : Nat), vk = .int .i64 k ∧ k ≤ l.length ∧ Hid (Rd wr vo (fset (l.take k)).length ((fset (l.take k)).map encStr)) ∧ Hid (Below w.heap.size w wr)) (fun _ vk _ => l.length - (intOf vk).toNat)
          case atStart => exact ⟨0, rfl, Nat.zero_le _, Lib.hid (rd_empty _), hb2'⟩
          case round =>
            obtain ⟨k, rfl, hk, hrd, hb⟩ := hrel
            by_cases hlt : k < l.length
            · have hur := Lib.hid (hr0.out.below hb.out)
              obtain ⟨b, o, hao, hbl, hcell⟩ := hur.out.at_pos (by omega)
              subst hao
              have hcw : wr.cell? ⟨b, o + k, none⟩ = some (.string (mkB l[k])) := rd_cell hcell hlt
              have hln : (fset (l.take k)).length ≤ 60 := Nat.le_trans (setS_len flt _) (by simp; omega)
              have hwith := Lib.hid (refWith_any u8 (fset (l.take k)) (mkB l[k]) wr hrd.out (by omega))
              rw [mkB_list, fset_snoc, ← List.take_succ_eq_append_getElem hlt] at hwith
              generalize mkB l[k] = X at hcw hwith
              clear hcell hrd hln
              go_wp2_with fail
              refine hwith.out.mono ?_
              rintro e w4 ⟨v4, rfl, hr4, b4⟩
              have hb4 := Lib.hid (hb.out.trans (b4.out.mono hb.out.size))
              clear b4 hwith
              go_wp2_with fail
              go_roundw
              case rel => exact ⟨k + 1, by go_num, by omega, hr4, hb4⟩
              case measure => simp [intOf]; omega
            · obtain rfl : k = l.length := by omega
              rw [List.take_length] at hrd
              go_wp2_with fail
              go_loopw [8, 10] (fun vo vk wr => ∃ (k : Nat), vk = .int .i64 k ∧ k ≤ by_.length ∧ Hid (Rd wr vo (fset (l ++ by_.take k)).length ((fset (l ++ by_.take k)).map encStr)) ∧ Hid (Below w.heap.size w wr)) (fun _ vk _ => by_.length - (intOf vk).toNat)
              case atStart => exact ⟨0, rfl, Nat.zero_le _, Lib.hid (by rw [List.take_zero, List.append_nil]; exact hrd.out), hb⟩
              case round =>
                obtain ⟨k, rfl, hk, hrd, hb⟩ := hrel
                by_cases hlt : k < by_.length
                · have hur := Lib.hid (hu0.out.below hb.out)
                  obtain ⟨b, o, hao, hbl, hcell⟩ := hur.out.at_pos (by omega)
                  subst hao
                  have hcw : wr.cell? ⟨b, o + k, none⟩ = some (.string (mkB by_[k])) := rd_cell hcell hlt
                  have hln : (fset (l ++ by_.take k)).length ≤ 60 := Nat.le_trans (setS_len flt _) (by simp; omega)
                  have hwith := Lib.hid (refWith_any u8 (fset (l ++ by_.take k)) (mkB by_[k]) wr hrd.out (by omega))
                  rw [mkB_list, fset_snoc, List.append_assoc, ← List.take_succ_eq_append_getElem hlt] at hwith
                  generalize mkB by_[k] = X at hcw hwith
                  clear hcell hrd hln
                  go_wp2_with fail
                  refine hwith.out.mono ?_
                  rintro e w4 ⟨v4, rfl, hr4, b4⟩
                  have hb4 := Lib.hid (hb.out.trans (b4.out.mono hb.out.size))
                  clear b4 hwith
                  go_wp2_with fail
                  go_roundw
                  case rel => exact ⟨k + 1, by go_num, by omega, hr4, hb4⟩
                  case measure => simp [intOf]; omega
                · obtain rfl : k = by_.length := by omega
                  rw [List.take_length] at hrd
                  obtain ⟨a3, c3, hv3⟩ : ∃ a c, u8 = .slice a (fset (l ++ by_)).length c := by
                    obtain ⟨a, c, h, _⟩ := hrd.out; exact ⟨a, c, h⟩
                  subst hv3
                  obtain ⟨F, hF⟩ : ∃ F, Hid (F = fset (l ++ by_)) := ⟨_, Lib.hid rfl⟩
                  have hFI : Hid (F = fset (chIn l 1 by_)) := Lib.hid (by rw [hF.out]; rfl)
                  have hfl : (fset (l ++ by_)).length ≤ ((l ++ by_)).length := setS_len flt _
                  have hF40 : F.length ≤ 40 := by
                    rw [hF.out]
                    refine Nat.le_trans hfl ?_
                    simp; omega
                  have hrd' : Hid (Rd wr (.slice a3 F.length c3) F.length (F.map encStr)) := Lib.hid (by rw [hF.out]; exact hrd.out)
                  rw [← hF.out]
                  clear hrd hF hfl
                  by_cases h16 : 16 < F.length
                  · go_wp2_with fail
                    go_ret2
                    exact ch_full hokk.out (by rw [← hFI.out]; exact h16) hb.out
                  · go_wp2_with fail
                    go_ret2
                    exact ch_ok hokk.out (by rw [← hFI.out]; exact h16) (by rw [← hFI.out]; exact hrd'.out) hb.out
        · clear hlo hhi
          go_wp2_with fail
          go_loopw [8, 9] (fun vo vk wr => ∃ (k : Nat), vk = .int .i64 k ∧ k ≤ l.length ∧ Hid (Rd wr vo (fset ((l.take k).filter fun x => !decide (x ∈ by_))).length ((fset ((l.take k).filter fun x => !decide (x ∈ by_))).map encStr)) ∧ Hid (Below w.heap.size w wr)) (fun _ vk _ => l.length - (intOf vk).toNat)
          case atStart => exact ⟨0, rfl, Nat.zero_le _, Lib.hid (rd_empty _), hb2'⟩
          case round =>
            obtain ⟨k, rfl, hk, hrd, hb⟩ := hrel
            by_cases hlt : k < l.length
            · have hur := Lib.hid (hr0.out.below hb.out)
              have huu := Lib.hid (hu0.out.below hb.out)
              obtain ⟨b, o, hao, hbl, hcell⟩ := hur.out.at_pos (by omega)
              subst hao
              have hcw : wr.cell? ⟨b, o + k, none⟩ = some (.string (mkB l[k])) := rd_cell hcell hlt
              have hln : (fset ((l.take k).filter fun x => !decide (x ∈ by_))).length ≤ 60 := Nat.le_trans (setS_len flt _) (Nat.le_trans (List.length_filter_le _ _) (by simp; omega))
              have hhas := Lib.hid (refHas_any (.slice ao2 by_.length cap2) by_ (mkB l[k]) wr huu.out (by omega))
              rw [mkB_list] at hhas
              have htake : (l.take (k + 1)).filter (fun x => !decide (x ∈ by_)) = (l.take k).filter (fun x => !decide (x ∈ by_)) ++ (if l[k] ∈ by_ then [] else [l[k]]) := by
                rw [List.take_succ_eq_append_getElem hlt, List.filter_append]
                by_cases hm : l[k] ∈ by_ <;> simp [hm]
              have hwith := Lib.hid (refWith_any u8 (fset ((l.take k).filter fun x => !decide (x ∈ by_))) (mkB l[k]) wr hrd.out (by omega))
              rw [mkB_list, fset_snoc] at hwith
              by_cases hm : l[k] ∈ by_
              · rw [if_pos hm, List.append_nil] at htake
                rw [← htake] at hrd
                rw [decide_eq_true hm] at hhas
                clear hwith htake hm hcell hln
                generalize mkB l[k] = X at hcw hhas
                go_wp2_with fail
                refine hhas.out.mono ?_
                rintro e w4 ⟨rfl, rfl⟩
                go_wp2_with fail
                go_roundw
                case rel => exact ⟨k + 1, by go_num, by omega, hrd, hb⟩
                case measure => simp [intOf]; omega
              · rw [if_neg hm] at htake
                rw [← htake] at hwith
                rw [decide_eq_false hm] at hhas
                clear htake hm hcell hln hrd
                generalize mkB l[k] = X at hcw hhas hwith
                go_wp2_with fail
                refine hhas.out.mono ?_
                rintro e w4 ⟨rfl, rfl⟩
                go_wp2_with fail
                refine hwith.out.mono ?_
                rintro e w4 ⟨v4, rfl, hr4, b4⟩
                have hb4 := Lib.hid (hb.out.trans (b4.out.mono hb.out.size))
                clear b4 hwith
                go_wp2_with fail
                go_roundw
                case rel => exact ⟨k + 1, by go_num, by omega, hr4, hb4⟩
                case measure => simp [intOf]; omega
            · obtain rfl : k = l.length := by omega
              rw [List.take_length] at hrd
              obtain ⟨a3, c3, hv3⟩ : ∃ a c, u8 = .slice a (fset (l.filter fun x => !decide (x ∈ by_))).length c := by
                obtain ⟨a, c, h, _⟩ := hrd.out; exact ⟨a, c, h⟩
              subst hv3
              obtain ⟨F, hF⟩ : ∃ F, Hid (F = fset (l.filter fun x => !decide (x ∈ by_))) := ⟨_, Lib.hid rfl⟩
              have hFI : Hid (F = fset (chIn l 2 by_)) := Lib.hid (by rw [hF.out, ch_in2])
              have hfl : (fset (l.filter fun x => !decide (x ∈ by_))).length ≤ ((l.filter fun x => !decide (x ∈ by_))).length := setS_len flt _
              have hF40 : F.length ≤ 40 := by
                rw [hF.out]
                refine Nat.le_trans hfl ?_
                exact Nat.le_trans (List.length_filter_le _ _) (by omega)
              have hrd' : Hid (Rd wr (.slice a3 F.length c3) F.length (F.map encStr)) := Lib.hid (by rw [hF.out]; exact hrd.out)
              rw [← hF.out]
              clear hrd hF hfl
              by_cases h16 : 16 < F.length
              · go_wp2_with fail
                go_ret2
                exact ch_full hokk.out (by rw [← hFI.out]; exact h16) hb.out
              · go_wp2_with fail
                go_ret2
                exact ch_ok hokk.out (by rw [← hFI.out]; exact h16) (by rw [← hFI.out]; exact hrd'.out) hb.out
end Go.Proofs.YtdobbfjmlnlieaaGreat
