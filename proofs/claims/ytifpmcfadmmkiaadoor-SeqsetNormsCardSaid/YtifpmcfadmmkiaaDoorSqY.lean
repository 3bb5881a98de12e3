/- SeqsetBack: walked; what the card asks of it. -/
import Derived.Test.YtifpmcfadmmkiaaDoorSqI
import Derived.Test.YtifpmcfadmmkiaaDoorSqV
namespace Go.Proofs.YtifpmcfadmmkiaaDoor
open Go.RowKit

theorem print_good {rs : List Rng} {W : World} {e : Ending} {w' : World} (h : printOk rs = true) (hp : PrintRet rs W e w') : ∃ u : ByteArray, e = .returned (.tuple #[.string u, .bool true]) ∧ Hid (u.data.toList = printL rs) ∧ Hid (Below W.heap.size W w') := by
  obtain ⟨u, he, hu, hb⟩ := hp
  rw [h] at he hu
  exact ⟨u, he, hu, hb⟩
theorem print_bad {rs : List Rng} {W : World} {e : Ending} {w' : World} (h : printOk rs = false) (hp : PrintRet rs W e w') : e = .returned (.tuple #[.string ⟨#[]⟩, .bool false]) ∧ Hid (Below W.heap.size W w') := by
  obtain ⟨u, he, hu, hb⟩ := hp
  rw [h] at he hu
  have e2 : u = ⟨#[]⟩ := by
    apply ByteArray.ext
    apply Array.ext'
    exact hu.out
  subst e2
  exact ⟨he, hb⟩
theorem parse_good {s : List UInt8} {rs : List Rng} {W : World} {e : Ending} {w' : World} (h : parseL s = some rs) (hp : ParseRet s W e w') : ∃ v, e = .returned (.tuple #[v, .bool true]) ∧ Hid (RangesIn w' w'.heap.size v rs) ∧ Hid (Below W.heap.size W w') := by
  obtain ⟨v, he, hr, hb⟩ := hp
  rw [h] at he hr
  exact ⟨v, he, hr, hb⟩
theorem parse_bad {s : List UInt8} {W : World} {e : Ending} {w' : World} (h : parseL s = none) (hp : ParseRet s W e w') : ∃ ao cap, e = .returned (.tuple #[.slice ao 0 cap, .bool false]) ∧ Hid (Below W.heap.size W w') := by
  obtain ⟨v, he, hr, hb⟩ := hp
  rw [h] at he hr
  obtain ⟨ao, cap, hv, _⟩ := hr.out
  subst hv
  exact ⟨ao, cap, he, hb⟩
set_option maxRecDepth 100000 in
set_option maxHeartbeats 4000000 in
theorem back_any (hal : AliveOk) (rs : List Rng) (v : Value) (s : ByteArray) (hs : s.size ≤ 1048576) (w : World) (hk : RangesIn w w.heap.size v rs) (hl : rs.length ≤ 9223372036854775807) (hu : ∀ r ∈ rs, r.1 < 18446744073709551616 ∧ r.2 < 18446744073709551616) (hg : Gr w) :
    Calls Tryd.prog 5 #[v, .string s] w fun e w' => e = .returned (.bool true) ∧ Below w.heap.size w w' := by
  have hk0 := Lib.hid hk
  obtain ⟨ao, cap, rfl, -⟩ := hk
  replace hg := Lib.hid hg
  replace hal := Lib.hid hal
  unfold AliveOk at hal
  have hpr := Lib.hid (fun W (h : RangesIn W W.heap.size (.slice ao rs.length cap) rs) (h2 : Gr W) => print_any rs (.slice ao rs.length cap) W h hu h2.1)
  have hps := Lib.hid (fun W (h : Gr W) => parse_any s hs W h)
  have hS := Lib.hid (fun W va vb (a : List Rng) (h : RangesIn W W.heap.size va a) (h2 : RangesIn W W.heap.size vb a) (hl : a.length ≤ 9223372036854775807) => same_any va vb a a W h h2 hl)
  simp only [decide_true] at hS
  clear hu
  have hsl : s.data.toList.length = s.size := rfl
  cases hO : printOk rs
  · -- what is not written
    replace hO := Lib.hid hO
    cases hP : parseL s.data.toList with
    | none =>
      replace hP := Lib.hid hP
      go_enter Tryd.func5, Tryd.ntmps5
      go_wp2_with fail
      refine (hal.out w hg.out).mono ?_
      rintro e w1 ⟨rfl, b1⟩
      replace b1 := Lib.hid b1
      have g1 := Lib.hid (hg.out.later b1.out)
      have k1 := Lib.hid (hk0.out.on b1.out)
      go_wp2_with fail
      refine (hpr.out w1 k1.out g1.out).mono ?_
      intro e w2 h
      obtain ⟨rfl, b2⟩ := print_bad hO.out h
      have g2 := Lib.hid (g1.out.later b2.out)
      have B2 := Lib.hid (b1.out.trans (b2.out.mono b1.out.size))
      clear h
      go_wp2_with fail
      refine (parse_any ⟨#[]⟩ (by decide) w2 g2.out).mono ?_
      intro e w3 h
      obtain ⟨a3, c3, rfl, b3⟩ := parse_bad parse_empty h
      have g3 := Lib.hid (g2.out.later b3.out)
      have B3 := Lib.hid (B2.out.trans (b3.out.mono B2.out.size))
      clear h
      go_wp2_with fail
      refine (hps.out w3 g3.out).mono ?_
      intro e w4 h
      obtain ⟨a4, c4, rfl, b4⟩ := parse_bad hP.out h
      have B4 := Lib.hid (B3.out.trans (b4.out.mono B3.out.size))
      clear h
      go_wp2_with fail
      go_ret
      exact ⟨rfl, B4.out⟩
    | some ks =>
      obtain ⟨hok, hle⟩ := print_parse hP
      have hpb := parse_print hok
      have hks := print_parts hok
      have hku : ∀ r ∈ ks, r.1 < 18446744073709551616 ∧ r.2 < 18446744073709551616 := fun r hr => by
        have := List.all_eq_true.1 hks.2.2 r hr
        have : max r.1 r.2 ≤ 4294967295 := of_decide_eq_true this
        omega
      replace hP := Lib.hid hP
      replace hok := Lib.hid hok
      replace hpb := Lib.hid hpb
      replace hku := Lib.hid hku
      replace hks := Lib.hid hks.2.1
      go_enter Tryd.func5, Tryd.ntmps5
      go_wp2_with fail
      refine (hal.out w hg.out).mono ?_
      rintro e w1 ⟨rfl, b1⟩
      replace b1 := Lib.hid b1
      have g1 := Lib.hid (hg.out.later b1.out)
      have k1 := Lib.hid (hk0.out.on b1.out)
      go_wp2_with fail
      refine (hpr.out w1 k1.out g1.out).mono ?_
      intro e w2 h
      obtain ⟨rfl, b2⟩ := print_bad hO.out h
      have g2 := Lib.hid (g1.out.later b2.out)
      have B2 := Lib.hid (b1.out.trans (b2.out.mono b1.out.size))
      clear h
      go_wp2_with fail
      refine (parse_any ⟨#[]⟩ (by decide) w2 g2.out).mono ?_
      intro e w3 h
      obtain ⟨a3, c3, rfl, b3⟩ := parse_bad parse_empty h
      have g3 := Lib.hid (g2.out.later b3.out)
      have B3 := Lib.hid (B2.out.trans (b3.out.mono B2.out.size))
      clear h
      go_wp2_with fail
      refine (hps.out w3 g3.out).mono ?_
      intro e w4 h
      obtain ⟨v4, rfl, r4, b4⟩ := parse_good hP.out h
      have g4 := Lib.hid (g3.out.later b4.out)
      have B4 := Lib.hid (B3.out.trans (b4.out.mono B3.out.size))
      clear h
      go_wp2_with fail
      refine (print_any ks v4 w4 r4.out hku.out g4.out.1).mono ?_
      intro e w5 h
      obtain ⟨u5, rfl, hu5, b5⟩ := print_good hok.out h
      have g5 := Lib.hid (g4.out.later b5.out)
      have B5 := Lib.hid (B4.out.trans (b5.out.mono B4.out.size))
      have r5 := Lib.hid (r4.out.on b5.out)
      have hz5 : u5.size ≤ s.size := by rw [size_of_list hu5.out]; omega
      clear h
      go_wp2_with fail
      refine (parse_any u5 (by omega) w5 g5.out).mono ?_
      intro e w6 h
      rw [hu5.out] at h
      obtain ⟨v6, rfl, r6, b6⟩ := parse_good hpb.out h
      have B6 := Lib.hid (B5.out.trans (b6.out.mono B5.out.size))
      have r56 := Lib.hid (r5.out.on b6.out)
      clear h
      go_wp2_with fail
      refine (hS.out w6 _ _ ks r6.out r56.out (by have := hks.out; omega)).mono ?_
      rintro e w7 ⟨rfl, b7⟩
      have B7 := Lib.hid (B6.out.trans (b7.mono B6.out.size))
      go_wp2_with fail
      go_ret
      exact ⟨rfl, B7.out⟩
  · have hpr0 := Lib.hid (parse_print hO)
    have hln : (printL rs).length ≤ 1048576 := by
      have h2 := print_parts hO
      have := join_len (rs.map rngL) (fun x hx => by
        obtain ⟨r, hr, rfl⟩ := List.mem_map.1 hx
        have hb : max r.1 r.2 ≤ 4294967295 := of_decide_eq_true (List.all_eq_true.1 h2.2.2 r hr)
        exact rngL_len r (by omega) (by omega))
      rw [List.length_map] at this
      unfold printL; omega
    replace hln := Lib.hid hln
    replace hO := Lib.hid hO
    cases hP : parseL s.data.toList with
    | none =>
      replace hP := Lib.hid hP
      go_enter Tryd.func5, Tryd.ntmps5
      go_wp2_with fail
      refine (hal.out w hg.out).mono ?_
      rintro e w1 ⟨rfl, b1⟩
      replace b1 := Lib.hid b1
      have g1 := Lib.hid (hg.out.later b1.out)
      have k1 := Lib.hid (hk0.out.on b1.out)
      go_wp2_with fail
      refine (hpr.out w1 k1.out g1.out).mono ?_
      intro e w2 h
      obtain ⟨u2, rfl, hu2, b2⟩ := print_good hO.out h
      have g2 := Lib.hid (g1.out.later b2.out)
      have B2 := Lib.hid (b1.out.trans (b2.out.mono b1.out.size))
      have k2 := Lib.hid (k1.out.on b2.out)
      clear h
      go_wp2_with fail
      refine (parse_any u2 (by rw [size_of_list hu2.out]; exact hln.out) w2 g2.out).mono ?_
      intro e w3 h
      rw [hu2.out] at h
      obtain ⟨v3, rfl, r3, b3⟩ := parse_good hpr0.out h
      have g3 := Lib.hid (g2.out.later b3.out)
      have B3 := Lib.hid (B2.out.trans (b3.out.mono B2.out.size))
      have k3 := Lib.hid (k2.out.on b3.out)
      clear h
      go_wp2_with fail
      refine (hS.out w3 _ _ rs r3.out k3.out hl).mono ?_
      rintro e w4 ⟨rfl, b4⟩
      have g4 := Lib.hid (g3.out.later b4)
      have B4 := Lib.hid (B3.out.trans (b4.mono B3.out.size))
      go_wp2_with fail
      refine (hps.out w4 g4.out).mono ?_
      intro e w5 h
      obtain ⟨a5, c5, rfl, b5⟩ := parse_bad hP.out h
      have B5 := Lib.hid (B4.out.trans (b5.out.mono B4.out.size))
      clear h
      go_wp2_with fail
      go_ret
      exact ⟨rfl, B5.out⟩
    | some ks =>
      obtain ⟨hok, hle⟩ := print_parse hP
      have hpb := parse_print hok
      have hks := print_parts hok
      have hku : ∀ r ∈ ks, r.1 < 18446744073709551616 ∧ r.2 < 18446744073709551616 := fun r hr => by
        have := List.all_eq_true.1 hks.2.2 r hr
        have : max r.1 r.2 ≤ 4294967295 := of_decide_eq_true this
        omega
      replace hP := Lib.hid hP
      replace hok := Lib.hid hok
      replace hpb := Lib.hid hpb
      replace hku := Lib.hid hku
      replace hks := Lib.hid hks.2.1
      go_enter Tryd.func5, Tryd.ntmps5
      go_wp2_with fail
      refine (hal.out w hg.out).mono ?_
      rintro e w1 ⟨rfl, b1⟩
      replace b1 := Lib.hid b1
      have g1 := Lib.hid (hg.out.later b1.out)
      have k1 := Lib.hid (hk0.out.on b1.out)
      go_wp2_with fail
      refine (hpr.out w1 k1.out g1.out).mono ?_
      intro e w2 h
      obtain ⟨u2, rfl, hu2, b2⟩ := print_good hO.out h
      have g2 := Lib.hid (g1.out.later b2.out)
      have B2 := Lib.hid (b1.out.trans (b2.out.mono b1.out.size))
      have k2 := Lib.hid (k1.out.on b2.out)
      clear h
      go_wp2_with fail
      refine (parse_any u2 (by rw [size_of_list hu2.out]; exact hln.out) w2 g2.out).mono ?_
      intro e w3 h
      rw [hu2.out] at h
      obtain ⟨v3, rfl, r3, b3⟩ := parse_good hpr0.out h
      have g3 := Lib.hid (g2.out.later b3.out)
      have B3 := Lib.hid (B2.out.trans (b3.out.mono B2.out.size))
      have k3 := Lib.hid (k2.out.on b3.out)
      clear h
      go_wp2_with fail
      refine (hS.out w3 _ _ rs r3.out k3.out hl).mono ?_
      rintro e w4' ⟨rfl, b4'⟩
      have g4' := Lib.hid (g3.out.later b4')
      have B4' := Lib.hid (B3.out.trans (b4'.mono B3.out.size))
      go_wp2_with fail
      refine (hps.out w4' g4'.out).mono ?_
      intro e w4 h
      obtain ⟨v4, rfl, r4, b4⟩ := parse_good hP.out h
      have g4 := Lib.hid (g4'.out.later b4.out)
      have B4 := Lib.hid (B4'.out.trans (b4.out.mono B4'.out.size))
      clear h
      go_wp2_with fail
      refine (print_any ks v4 w4 r4.out hku.out g4.out.1).mono ?_
      intro e w5 h
      obtain ⟨u5, rfl, hu5, b5⟩ := print_good hok.out h
      have g5 := Lib.hid (g4.out.later b5.out)
      have B5 := Lib.hid (B4.out.trans (b5.out.mono B4.out.size))
      have r5 := Lib.hid (r4.out.on b5.out)
      have hz5 : u5.size ≤ s.size := by rw [size_of_list hu5.out]; omega
      clear h
      go_wp2_with fail
      refine (parse_any u5 (by omega) w5 g5.out).mono ?_
      intro e w6 h
      rw [hu5.out] at h
      obtain ⟨v6, rfl, r6, b6⟩ := parse_good hpb.out h
      have B6 := Lib.hid (B5.out.trans (b6.out.mono B5.out.size))
      have r56 := Lib.hid (r5.out.on b6.out)
      clear h
      go_wp2_with fail
      refine (hS.out w6 _ _ ks r6.out r56.out (by have := hks.out; omega)).mono ?_
      rintro e w7 ⟨rfl, b7⟩
      have B7 := Lib.hid (B6.out.trans (b7.mono B6.out.size))
      go_wp2_with fail
      go_ret
      exact ⟨rfl, B7.out⟩
end Go.Proofs.YtifpmcfadmmkiaaDoor
