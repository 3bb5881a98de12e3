/- The document's Print; SeqsetWrites: walked. -/
import Derived.Test.YtifpmcfadmmkiaaDoorSqI
namespace Go.Proofs.YtifpmcfadmmkiaaDoor
open Go.RowKit

theorem joinTail_snoc (sep : List UInt8) (r : List (List UInt8)) (x : List UInt8) : Lib.joinTail sep (r ++ [x]) = Lib.joinTail sep r ++ (sep ++ x) := by
  unfold Lib.joinTail
  rw [List.map_append, List.flatten_append]
  simp
/-- what stands ahead of range k -/
def aheadL (rs : List Rng) (k : Nat) : List UInt8 := if k = 0 then [] else printL (rs.take k) ++ [44]
theorem print_snoc (rs : List Rng) (k : Nat) (hlt : k < rs.length) : printL (rs.take (k + 1)) = aheadL rs k ++ rngL rs[k] := by
  unfold aheadL printL
  rw [List.take_succ_eq_append_getElem hlt, List.map_append]
  split
  · rename_i h; subst h
    rw [List.take_zero, List.map_nil, List.nil_append, List.nil_append]
    exact Lib.join_one _ _
  · rename_i h
    cases hm : (rs.take k).map rngL with
    | nil => exact absurd (congrArg List.length hm) (by rw [List.length_map, List.length_take, List.length_nil]; omega)
    | cons y r =>
      rw [List.cons_append, Lib.join_cons, Lib.join_cons]
      show y ++ Lib.joinTail [44] (r ++ [rngL rs[k]]) = _
      rw [joinTail_snoc]
      simp
theorem print_len (rs : List Rng) (hu : ∀ r ∈ rs, r.1 < 18446744073709551616 ∧ r.2 < 18446744073709551616) (k : Nat) : (printL (rs.take k)).length ≤ 42 * k := by
  have := join_len ((rs.take k).map rngL) (fun x hx => by
    obtain ⟨r, hr, rfl⟩ := List.mem_map.1 hx
    have hr := List.mem_of_mem_take hr
    exact rngL_len r (hu r hr).1 (hu r hr).2)
  rw [List.length_map] at this
  have h2 := List.length_take_le k rs
  unfold printL
  omega
set_option maxRecDepth 100000 in
set_option maxHeartbeats 8000000 in
theorem refPrint_any (rs : List Rng) (v : Value) (w : World) (hk : RangesIn w w.heap.size v rs) (hu : ∀ r ∈ rs, r.1 < 18446744073709551616 ∧ r.2 < 18446744073709551616) :
    Calls Tryd.prog 10 #[v] w (PrintRet rs w) := by
  have hk0 := Lib.hid hk
  have hpl := Lib.hid (print_len rs hu)
  replace hu := Lib.hid hu
  obtain ⟨ao, cap, rfl, _⟩ := hk
  by_cases h1 : 1 ≤ rs.length
  · have e0 : ((rs.length : Int) == 0) = false := beq_eq_false_iff_ne.2 (by omega)
    by_cases h64 : rs.length ≤ 64
    · have hok : Hid (printOk rs = rs.all rngOk) := Lib.hid (by rw [printOk, decide_eq_true h1, decide_eq_true h64]; rfl)
      go_enter Tryd.func10, Tryd.ntmps10
      go_wp2_with fail
      go_loopw [4, 5] (fun v4 v5 wr => ∃ (k : Nat) (s : ByteArray), v5 = .int .i64 k ∧ v4 = .string s ∧ k ≤ rs.length ∧ Hid ((rs.take k).all rngOk = true) ∧ Hid (s.data.toList = printL (rs.take k)) ∧ Hid (Below w.heap.size w wr)) (fun _ v5 _ => rs.length - (intOf v5).toNat)
      case atStart => exact ⟨0, ⟨#[]⟩, rfl, rfl, Nat.zero_le _, Lib.hid rfl, Lib.hid rfl, Lib.hid (Below.refl _ _)⟩
      case round =>
        obtain ⟨k, s, rfl, rfl, hkl, hall, hs, hb⟩ := hrel
        by_cases hlt : k < rs.length
        · obtain ⟨ao', cap', hv, hk | ⟨b, o, hao, hbB, hcap, hcells⟩⟩ := hk0.out.later hb.out
          · rw [hk] at hlt; simp at hlt
          · cases hv
            subst hao
            obtain ⟨c0, c1⟩ := hcells k hlt
            clear hcells
            have hss : s.size ≤ 42 * k := by rw [size_of_list hs.out]; exact hpl.out k
            have hux := hu.out _ (List.getElem_mem hlt)
            have hbad : rngOk rs[k] = false → printOk rs = false := rngOk_take hlt
            have htk : rs.take (k + 1) = rs.take k ++ [rs[k]] := List.take_succ_eq_append_getElem hlt
            have hpr := print_snoc rs k hlt
            generalize rs[k] = r at c0 c1 hux hbad htk hpr
            obtain ⟨x, y⟩ := r
            dsimp only at c0 c1 hux
            have hcl := Lib.hid (fun W (h : Below wr.heap.size wr W) => And.intro ((h.cell (p := ⟨b, o + k * 2, none⟩) (Nat.lt_of_lt_of_le hbB hb.out.size)).trans c0) ((h.cell (p := ⟨b, o + k * 2 + 1, none⟩) (Nat.lt_of_lt_of_le hbB hb.out.size)).trans c1))
            have hxx := hux.1
            have hyy := hux.2
            have hT := Lib.hid (fun W => refTold_any x hxx W)
            have hT2 := Lib.hid (fun W => refTold_any y hyy W)
            have hi0 : (0 : Int) ≤ (k : Int) := by omega
            have hi1 : (k : Int) < (rs.length : Int) := by omega
            by_cases hbx : x ≤ 4294967295
            · have gx : decide ((4294967295 : Int) < (x : Int)) = false := by simp; omega
              by_cases hby : y ≤ 4294967295
              · have gy : decide ((4294967295 : Int) < (y : Int)) = false := by simp; omega
                have hall2 : Hid ((rs.take (k + 1)).all rngOk = true) := Lib.hid (by rw [htk, List.all_append, hall.out]; simp [rngOk]; omega)
                have hu1s : ∀ u : ByteArray, u.data.toList = toldL x → u.size ≤ 20 := fun u h => by rw [size_of_list h]; exact toldL_len x hxx
                have hu2s : ∀ u : ByteArray, u.data.toList = toldL y → u.size ≤ 20 := fun u h => by rw [size_of_list h]; exact toldL_len y hyy
                replace hu1s := Lib.hid hu1s
                replace hu2s := Lib.hid hu2s
                have hd : ∃ d : ByteArray, d.data.toList = aheadL rs k ∧ ((k = 0 ∧ d = s) ∨ (0 < k ∧ d = s ++ ⟨#[44]⟩)) := by
                  rcases Nat.eq_zero_or_pos k with h0 | h0
                  · refine ⟨s, ?_, .inl ⟨h0, rfl⟩⟩
                    rw [hs.out, aheadL, if_pos h0, h0]; rfl
                  · refine ⟨s ++ ⟨#[44]⟩, ?_, .inr ⟨h0, rfl⟩⟩
                    rw [toList_app, hs.out, aheadL, if_neg (by omega)]
                obtain ⟨d, hd1, hd2⟩ := hd
                have hds : d.size ≤ 42 * k + 1 := by
                  rcases hd2 with ⟨_, h⟩ | ⟨_, h⟩
                  · rw [h]; omega
                  · rw [h, ByteArray.size_append]; exact Nat.add_le_add_right hss 1
                have h44 : (s ++ (⟨#[44]⟩ : ByteArray)).size ≤ 42 * k + 1 := by rw [ByteArray.size_append]; exact Nat.add_le_add_right hss 1
                rw [← hd1] at hpr
                replace hpr := Lib.hid hpr
                clear hd1 hbad htk hux
                have hk64 : k ≤ 64 := by omega
                by_cases hxy : y = x
                · subst hxy
                  have hne : ((y : Int) != (y : Int)) = false := by simp
                  have hr1 : Hid (rngL (y, y) = toldL y) := Lib.hid (by unfold rngL; rw [if_pos rfl])
                  rcases hd2 with ⟨h0, hd2⟩ | ⟨h0, hd2⟩
                  all_goals (
                    have g0 : decide (0 < k) = decide (0 < k) := rfl
                    first | (rw [decide_eq_true h0] at g0; clear g0; have g0 : 0 < k := h0) | (clear g0; have g0 : ¬ 0 < k := by omega)
                    replace h0 := Lib.hid h0
                    subst d
                    clear h44 hds
                    go_wp2_with fail
                    refine (hT.out _).mono ?_
                    rintro e w2 ⟨u1, rfl, hu1, hb2⟩
                    have hB2 := Lib.hid (hb.out.trans (hb2.mono hb.out.size))
                    obtain ⟨d0, d1⟩ := hcl.out w2 hb2
                    have hs1 := hu1s.out u1 hu1.out
                    clear hT hT2 hb2 hcl c0 c1
                    go_wp2_with fail
                    go_quiet (fail)
                    go_wp2_with fail
                    go_roundw
                    case rel => exact ⟨k + 1, _, by go_num, rfl, by omega, hall2, Lib.hid (by rw [hpr.out, toList_app, hr1.out, hu1.out]), Lib.hid (below_drewN hB2.out _)⟩
                    case measure => simp [intOf] <;> omega)
                · have hne : ((x : Int) != (y : Int)) = true := by rw [bne_iff_ne]; omega
                  have hr1 : Hid (rngL (x, y) = toldL x ++ (58 :: toldL y)) := Lib.hid (by unfold rngL; rw [if_neg hxy])
                  clear hxy
                  rcases hd2 with ⟨h0, hd2⟩ | ⟨h0, hd2⟩
                  all_goals (
                    have g0 : decide (0 < k) = decide (0 < k) := rfl
                    first | (rw [decide_eq_true h0] at g0; clear g0; have g0 : 0 < k := h0) | (clear g0; have g0 : ¬ 0 < k := by omega)
                    replace h0 := Lib.hid h0
                    subst d
                    clear h44 hds
                    go_wp2_with fail
                    refine (hT.out _).mono ?_
                    rintro e w2 ⟨u1, rfl, hu1, hb2⟩
                    have hB2 := Lib.hid (hb.out.trans (hb2.mono hb.out.size))
                    obtain ⟨d0, d1⟩ := hcl.out w2 hb2
                    have hs1 := hu1s.out u1 hu1.out
                    clear hT hb2 hcl c0 c1
                    go_wp2_with fail
                    go_quiet (fail)
                    go_wp2_with fail
                    refine (hT2.out _).mono ?_
                    rintro e w3 ⟨u2, rfl, hu2, hb3⟩
                    have hs2 := hu2s.out u2 hu2.out
                    have hB3 := Lib.hid ((below_drewN hB2.out _).trans (hb3.mono (below_drewN hB2.out _).size))
                    clear hT2 hb3
                    go_wp2_with fail
                    go_roundw
                    case rel => exact ⟨k + 1, _, by go_num, rfl, by omega, hall2, Lib.hid (by rw [hpr.out]; simp only [toList_app]; rw [hr1.out, hu1.out, hu2.out]; simp), hB3⟩
                    case measure => simp [intOf] <;> omega)
              · have gy : decide ((4294967295 : Int) < (y : Int)) = true := by simp; omega
                have hq := Lib.hid (hbad (by unfold rngOk; simp; omega))
                clear hbad htk hux hpr
                go_wp2_with fail
                go_ret2
                exact print_no hq.out hb.out
            · have gx : decide ((4294967295 : Int) < (x : Int)) = true := by simp; omega
              have hq := Lib.hid (hbad (by unfold rngOk; simp; omega))
              clear hbad htk hux hpr
              go_wp2_with fail
              go_ret2
              exact print_no hq.out hb.out
        · obtain rfl : k = rs.length := by omega
          rw [List.take_length] at hall hs
          have hq : Hid (printOk rs = true) := Lib.hid (by rw [hok.out, hall.out])
          go_wp2_with fail
          go_ret2
          exact print_yes hq.out hs.out hb.out
    · have hn : Hid (printOk rs = false) := Lib.hid (by rw [printOk, decide_eq_false h64, Bool.and_false, Bool.false_and])
      go_enter Tryd.func10, Tryd.ntmps10
      go_wp2_with fail
      go_ret2
      exact print_no hn.out (Below.refl _ _)
  · have hn : Hid (printOk rs = false) := Lib.hid (by rw [printOk, decide_eq_false h1, Bool.false_and, Bool.false_and])
    have hz : rs.length = 0 := by omega
    go_enter Tryd.func10, Tryd.ntmps10
    rw [hz]
    go_wp2_with fail
    go_ret2
    exact print_no hn.out (Below.refl _ _)
theorem owns_emptyR (w : World) : OwnR (w.alloc (.cells #[] 37)) w.heap.size (.slice (some ⟨w.heap.size, 0, none⟩) 0 0) [] :=
  ⟨rfl, .inr ⟨w.heap.size, 0, #[], rfl, Nat.le_refl _, heap_alloc_new w _, Nat.le_refl _, by unfold maxLen; omega, rfl, rfl⟩⟩
theorem str_beq {a b : ByteArray} {l : List UInt8} (ha : a.data.toList = l) (hb : b.data.toList = l) : (a.toList == b.toList) = true := by
  rw [ByteArray.toList_eq, ByteArray.toList_eq, ha, hb]; exact beq_self_eq_true _
set_option maxRecDepth 100000 in
set_option maxHeartbeats 4000000 in
theorem writes_any (hal : AliveOk) (rs : List Rng) (v : Value) (w : World) (hk : RangesIn w w.heap.size v rs) (hl : (rs.length + 1) * 16 ≤ 140737488355328) (hu : ∀ r ∈ rs, r.1 < 18446744073709551616 ∧ r.2 < 18446744073709551616) (hg : Gr w) :
    Calls Tryd.prog 3 #[v] w fun e w' => e = .returned (.bool true) ∧ Below w.heap.size w w' := by
  have hk0 := Lib.hid hk
  have hP := Lib.hid (fun W v2 (h : RangesIn W W.heap.size v2 rs) (h2 : Gr W) => print_any rs v2 W h hu h2.1)
  have hP2 := Lib.hid (fun W v2 (h : RangesIn W W.heap.size v2 rs) => refPrint_any rs v2 W h hu)
  have hS := Lib.hid (fun W va vb (h : RangesIn W W.heap.size va rs) (h2 : RangesIn W W.heap.size vb rs) => same_any va vb rs rs W h h2 (by omega))
  simp only [decide_true] at hS
  have hrd := Lib.hid hk.rd
  clear hk
  replace hg := Lib.hid hg
  replace hal := Lib.hid hal
  unfold AliveOk at hal
  clear hu
  go_enter Tryd.func3, Tryd.ntmps3
  go_wp2_with (at_builtin; refine wpList_append_ranges rfl (.tmp 8) (.tmp 9) rfl w.heap.size _ _ [] rs rfl rfl (owns_emptyR w) (hrd.out.below ((Below.refl _ _).alloc (Nat.le_refl _) _)) (by simp; omega) (by simp) ?_)
  intro v3 w1 ho1 hb1
  have b1 := Lib.hid (((Below.refl w.heap.size w).alloc (Nat.le_refl _) (.cells #[] 37)).trans (hb1.mono (Nat.le_refl _)))
  have k1 := Lib.hid (hk0.out.on b1.out)
  have o1 := Lib.hid ho1.ranges
  have g1 := Lib.hid (hg.out.later b1.out)
  clear ho1 hb1 hk0 hg hrd
  go_wp2_with fail
  refine (hP.out w1 _ o1.out g1.out).mono ?_
  rintro e w2 ⟨u1, rfl, hu1, b2⟩
  have k2 := Lib.hid (k1.out.on b2.out)
  have o2 := Lib.hid (o1.out.on b2.out)
  have g2 := Lib.hid (g1.out.later b2.out)
  have B2 := Lib.hid (b1.out.trans (b2.out.mono b1.out.size))
  clear hP k1 o1 g1 b2 b1
  go_wp2_with fail
  refine (hP2.out w2 _ k2.out).mono ?_
  rintro e w3 ⟨u2, rfl, hu2, b3⟩
  have k3 := Lib.hid (k2.out.on b3.out)
  have o3 := Lib.hid (o2.out.on b3.out)
  have g3 := Lib.hid (g2.out.later b3.out)
  have B3 := Lib.hid (B2.out.trans (b3.out.mono B2.out.size))
  have hq := str_beq hu1.out hu2.out
  have hq2 : (printOk rs == printOk rs) = true := beq_self_eq_true _
  clear hP2 k2 o2 g2 b3 B2 hu1 hu2
  generalize printOk rs = X at hq2 ⊢
  go_wp2_with fail
  refine (hal.out w3 g3.out).mono ?_
  rintro e w4 ⟨rfl, b4⟩
  have k4 := Lib.hid (k3.out.on b4)
  have o4 := Lib.hid (o3.out.on b4)
  have B4 := Lib.hid (B3.out.trans (b4.mono B3.out.size))
  clear k3 o3 g3 b4 B3 hal
  go_wp2_with fail
  refine (hS.out w4 _ _ o4.out k4.out).mono ?_
  rintro e w5 ⟨rfl, b5⟩
  have B5 := Lib.hid (B4.out.trans (b5.mono B4.out.size))
  clear k4 o4 b5 B4
  go_wp2_with fail
  go_ret
  exact ⟨rfl, B5.out⟩
end Go.Proofs.YtifpmcfadmmkiaaDoor
