/- SeqsetHolds: walked; what the card asks of it. -/
import Derived.Test.YtifpmcfadmmkiaaDoorSqI
namespace Go.Proofs.YtifpmcfadmmkiaaDoor
open Go.RowKit

theorem owns_emptyN (w : World) : OwnN (w.alloc (.cells #[] 35)) w.heap.size (.slice (some ⟨w.heap.size, 0, none⟩) 0 0) [] :=
  ⟨rfl, .inr ⟨w.heap.size, 0, #[], rfl, Nat.le_refl _, heap_alloc_new w _, Nat.le_refl _, by unfold maxLen; omega, rfl, rfl⟩⟩
set_option maxRecDepth 100000 in
set_option maxHeartbeats 4000000 in
theorem holds_any (hal : AliveOk) (rs : List Rng) (v vo : Value) (most n : Nat) (of : List Nat) (w : World) (hl : rs.length ≤ 9223372036854775807) (hk : RangesIn w w.heap.size v rs) (hr : Rd w vo of.length (of.map encU)) (hol : (of.length + 1) * 8 ≤ 140737488355328) (hg : Gr w) :
    Calls Tryd.prog 8 #[v, .int .u64 most, .int .u64 n, vo] w fun e w' => e = .returned (.bool true) ∧ Below w.heap.size w w' := by
  have hr0 := Lib.hid hr
  have hk0 := Lib.hid hk
  have hP := Lib.hid (fun W v2 (h : RangesIn W W.heap.size v rs) (h2 : Rd W v2 of.length (of.map encU)) => pick_any rs v v2 most of W hl h h2 hol)
  have hP2 := Lib.hid (fun W v2 (h : RangesIn W W.heap.size v rs) (h2 : Rd W v2 of.length (of.map encU)) => refPick_any rs v v2 most of W hl h h2 hol)
  have hH := Lib.hid (fun W (h : RangesIn W W.heap.size v rs) => has_any rs v most n W hl h)
  have hH2 := Lib.hid (fun W (h : RangesIn W W.heap.size v rs) => refHas_any rs v most n W hl h)
  have hfl : (of.filter (hasL rs most)).length ≤ 9223372036854775807 := by have := List.length_filter_le (hasL rs most) of; omega
  have hS := Lib.hid (fun W va vb (a : List Nat) (h : Rd W va a.length (a.map encU)) (h2 : Rd W vb a.length (a.map encU)) (hl : a.length ≤ 9223372036854775807) => sameNums_any va vb a a W h h2 hl)
  simp only [decide_true] at hS
  replace hfl := Lib.hid hfl
  clear hr
  replace hg := Lib.hid hg
  replace hal := Lib.hid hal
  unfold AliveOk at hal
  clear hk
  generalize hX : hasL rs most n = X at hH hH2
  clear hX
  go_enter Tryd.func8, Tryd.ntmps8
  go_wp2_with (at_builtin; refine wpList_append_nums rfl (.tmp 11) (.tmp 12) rfl w.heap.size _ vo [] of rfl rfl (owns_emptyN w) (hr0.out.below ((Below.refl _ _).alloc (Nat.le_refl _) _)) (by simp; omega) (by simp) ?_)
  intro v9 w1 ho1 hb1
  have b1 := Lib.hid (((Below.refl w.heap.size w).alloc (Nat.le_refl _) (.cells #[] 35)).trans (hb1.mono (Nat.le_refl _)))
  have k1 := Lib.hid (hk0.out.on b1.out)
  have r1 := Lib.hid ho1.rd
  have r2 := Lib.hid (hr0.out.below b1.out)
  have g1 := Lib.hid (hg.out.later b1.out)
  clear ho1 hb1 hr0 hk0 hg
  go_wp2_with fail
  refine (hP.out w1 _ k1.out r1.out).mono ?_
  rintro e w2 ⟨v10, rfl, p2, b2⟩
  have k2 := Lib.hid (k1.out.on b2.out)
  have r12 := Lib.hid (r1.out.below b2.out)
  have r22 := Lib.hid (r2.out.below b2.out)
  have g2 := Lib.hid (g1.out.later b2.out)
  have B2 := Lib.hid (b1.out.trans (b2.out.mono b1.out.size))
  clear hP k1 r1 r2 g1 b2 b1
  go_wp2_with fail
  refine (hal.out w2 g2.out).mono ?_
  rintro e w3 ⟨rfl, b3⟩
  have k3 := Lib.hid (k2.out.on b3)
  have r13 := Lib.hid (r12.out.below b3)
  have r23 := Lib.hid (r22.out.below b3)
  have p3 := Lib.hid (p2.out.below b3)
  have B3 := Lib.hid (B2.out.trans (b3.mono B2.out.size))
  clear k2 r12 r22 p2 b3 B2 g2 hal
  go_wp2_with fail
  refine (hH.out w3 k3.out).mono ?_
  rintro e w4 ⟨rfl, b4⟩
  have k4 := Lib.hid (k3.out.on b4)
  have r14 := Lib.hid (r13.out.below b4)
  have r24 := Lib.hid (r23.out.below b4)
  have p4 := Lib.hid (p3.out.below b4)
  have B4 := Lib.hid (B3.out.trans (b4.mono B3.out.size))
  clear k3 r13 r23 p3 b4 B3 hH
  go_wp2_with fail
  refine (hH2.out w4 k4.out).mono ?_
  rintro e w5 ⟨rfl, b5⟩
  have k5 := Lib.hid (k4.out.on b5)
  have r15 := Lib.hid (r14.out.below b5)
  have r25 := Lib.hid (r24.out.below b5)
  have p5 := Lib.hid (p4.out.below b5)
  have B5 := Lib.hid (B4.out.trans (b5.mono B4.out.size))
  have hXX : (X == X) = true := beq_self_eq_true X
  clear k4 r14 r24 p4 b5 B4 hH2
  go_wp2_with fail
  refine (hP2.out w5 _ k5.out r25.out).mono ?_
  rintro e w6 ⟨v35, rfl, p36, b6⟩
  have r16 := Lib.hid (r15.out.below b6.out)
  have r26 := Lib.hid (r25.out.below b6.out)
  have p6 := Lib.hid (p5.out.below b6.out)
  have B6 := Lib.hid (B5.out.trans (b6.out.mono B5.out.size))
  clear k5 r15 r25 p5 b6 B5 hP2
  go_wp2_with fail
  refine (hS.out w6 _ _ _ p6.out p36.out hfl.out).mono ?_
  rintro e w7 ⟨rfl, b7⟩
  have r17 := Lib.hid (r16.out.below b7)
  have r27 := Lib.hid (r26.out.below b7)
  have B7 := Lib.hid (B6.out.trans (b7.mono B6.out.size))
  clear r16 r26 p6 p36 b7 B6
  go_wp2_with fail
  refine (hS.out w7 _ _ _ r17.out r27.out (by omega)).mono ?_
  rintro e w8 ⟨rfl, b8⟩
  have B8 := Lib.hid (B7.out.trans (b8.mono B7.out.size))
  clear r17 r27 b8 B7
  go_wp2_with fail
  go_ret
  exact ⟨rfl, B8.out⟩
end Go.Proofs.YtifpmcfadmmkiaaDoor
