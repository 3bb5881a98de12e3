/- Has of both, Pick of both: walked. -/
import Derived.Test.YtifpmcfadmmkiaaDoorSqE
import Derived.Laws.EntriesVeiled
namespace Go.Proofs.YtifpmcfadmmkiaaDoor
open Go.RowKit

def realI (most k : Int) : Int := if k = 0 then most else k
/-- one range of a set: does it hold n -/
def hasOne (most n : Nat) (r : Nat × Nat) : Bool := decide (min (realI most r.1) (realI most r.2) ≤ (n : Int)) && decide ((n : Int) ≤ max (realI most r.1) (realI most r.2))
def hasL (rs : List (Nat × Nat)) (most n : Nat) : Bool := rs.any (hasOne most n)
structure HasMem (W : World) (M N C : Nat) (most n : Nat) : Prop where
  bm : Boxed W M 35 (.int .u64 most)
  bn : Boxed W N 35 (.int .u64 n)
  bc : Boxed W C 55 (.func (.func 30) #[] #[.pointer (some ⟨M, 0, none⟩)])
theorem HasMem.later {W W' : World} {M N C most n : Nat} (h : HasMem W M N C most n) (hb : Below W.heap.size W W') : HasMem W' M N C most n := ⟨boxed_below h.bm hb, boxed_below h.bn hb, boxed_below h.bc hb⟩
set_option maxHeartbeats 1000000 in
theorem real_any (k : Int) (M most : Nat) (w : World) (hM : Boxed w M 35 (.int .u64 most)) :
    Calls Tryd.prog 30 #[.int .u64 k, .pointer (some ⟨M, 0, none⟩)] w fun e w' => e = .returned (.int .u64 (realI most k)) ∧ w' = w := by
  have cM := hM.cell
  by_cases h : k = 0
  · have hr : realI most k = most := if_pos h
    rw [hr]
    have h0 : (k == 0) = true := by rw [h]; rfl
    clear hr hM
    go_enter Tryd.func30, Tryd.ntmps30
    go_wp2_with fail
    go_ret
    exact ⟨rfl, rfl⟩
  · have hr : realI most k = k := if_neg h
    rw [hr]
    have h0 : (k == 0) = false := beq_eq_false_iff_ne.2 h
    clear hr hM cM
    go_enter Tryd.func30, Tryd.ntmps30
    go_wp2_with fail
    go_ret
    exact ⟨rfl, rfl⟩
set_option maxRecDepth 100000 in
set_option maxHeartbeats 2000000 in
theorem hasOne_any (r : Nat × Nat) (M N C most n : Nat) (w : World) (hM : HasMem w M N C most n) :
    Calls Tryd.prog 32 #[.agg #[.int .u64 r.1, .int .u64 r.2], .pointer (some ⟨C, 0, none⟩), .pointer (some ⟨N, 0, none⟩)] w fun e w' => e = .returned (.bool (hasOne most n r)) ∧ Hid (Below w.heap.size w w') := by
  obtain ⟨f, t⟩ := r
  dsimp only
  have hb := (Below.refl _ w).alloc (Nat.le_refl _) (.cells #[.int .u64 f, .int .u64 t] 37)
  have hM1 := hM.later hb
  have hf := Lib.hid (fun n => real_any f M most ((w.alloc (.cells #[.int .u64 f, .int .u64 t] 37)).drewN n) hM1.bm)
  have ht := Lib.hid (fun n => real_any t M most ((w.alloc (.cells #[.int .u64 f, .int .u64 t] 37)).drewN n) hM1.bm)
  have cN := hM1.bn.cell
  have cC := hM1.bc.cell
  have hv : Hid (hasOne most n (f, t) = (decide (min (realI most f) (realI most t) ≤ (n : Int)) && decide ((n : Int) ≤ max (realI most f) (realI most t)))) := Lib.hid rfl
  replace hb := Lib.hid hb
  clear hM hM1
  generalize realI most f = a at hf hv
  generalize realI most t = b at ht hv
  by_cases h1 : min a b ≤ (n : Int)
  · rw [decide_eq_true h1, Bool.true_and] at hv
    go_enter Tryd.func32, Tryd.ntmps32
    go_wp2_with fail
    go_quiet ((go_at_call 30; first | exact Calls.quiet_of_same (hf.out _) | exact Calls.quiet_of_same (ht.out _)))
    go_wp2_with fail
    go_ret
    exact ⟨by rw [hv.out]; rfl, Lib.hid (below_drewN hb.out _)⟩
  · rw [decide_eq_false h1, Bool.false_and] at hv
    go_enter Tryd.func32, Tryd.ntmps32
    go_wp2_with fail
    go_quiet ((go_at_call 30; first | exact Calls.quiet_of_same (hf.out _) | exact Calls.quiet_of_same (ht.out _)))
    go_wp2_with fail
    go_ret
    exact ⟨by rw [hv.out]; rfl, Lib.hid (below_drewN hb.out _)⟩
set_option maxRecDepth 100000 in
set_option maxHeartbeats 2000000 in
theorem hasIdx_any (rs : List (Nat × Nat)) (v : Value) (M N C most n : Nat) (w : World) (hl : rs.length ≤ 9223372036854775807) (hM : HasMem w M N C most n) (hk : RangesIn w w.heap.size v rs) :
    Calls Tryd.prog 44 #[v, .func (.func 32) #[] #[.pointer (some ⟨C, 0, none⟩), .pointer (some ⟨N, 0, none⟩)]] w fun e w' => ∃ r : Int, e = .returned (.int .i64 r) ∧ Hid (decide (0 ≤ r) = hasL rs most n) ∧ Hid (Below w.heap.size w w') := by
  have hk0 := Lib.hid hk
  have hwa := Lib.hid hasOne_any
  obtain ⟨ao, cap, rfl, _⟩ := hk
  replace hM := Lib.hid hM
  go_enter Tryd.func44, Tryd.ntmps44
  go_wp2_with fail
  go_loopw [8] (fun v8 wr => ∃ q : Nat, v8 = .int .i64 q ∧ q ≤ rs.length ∧ Hid ((rs.take q).any (hasOne most n) = false) ∧ Hid (Below w.heap.size w wr)) (fun v8 _ => rs.length - (intOf v8).toNat)
  case atStart => exact ⟨0, rfl, Nat.zero_le _, Lib.hid rfl, Lib.hid (Below.refl _ _)⟩
  case round =>
    obtain ⟨q, rfl, hq, hno, hb⟩ := hrel
    by_cases hlt : q < rs.length
    · obtain ⟨ao', cap', hv, hk | ⟨b, o, hao, hbB, hcap, hcells⟩⟩ := hk0.out.later hb.out
      · rw [hk] at hlt; simp at hlt
      · cases hv
        subst hao
        have hc := hcells q hlt
        have hstep : (rs.take (q + 1)).any (hasOne most n) = hasOne most n rs[q] := by rw [List.take_succ_eq_append_getElem hlt, List.any_append, hno.out]; simp
        have hyes : hasOne most n rs[q] = true → rs.any (hasOne most n) = true := fun h => List.any_eq_true.2 ⟨_, List.getElem_mem hlt, h⟩
        have hcall := Lib.hid (hwa.out rs[q] M N C most n wr (hM.out.later hb.out))
        generalize rs[q] = k at hc hstep hyes hcall
        obtain ⟨c0, c1⟩ := hc
        clear hcells
        cases hB : hasOne most n k
        · rw [hB] at hcall hstep
          replace hstep := Lib.hid hstep
          replace hyes := Lib.hid hyes
          replace hB := Lib.hid hB
          go_wp2_with fail
          refine hcall.out.mono ?_
          rintro e w3 ⟨rfl, hb3⟩
          have hb4 := Lib.hid (hb.out.trans (hb3.out.mono hb.out.size))
          clear hcall hb3 c0 c1
          go_wp2_with fail
          go_roundw
          case rel => exact ⟨q + 1, by go_num, by omega, hstep, hb4⟩
          case measure => simp [intOf] <;> omega
        · rw [hB] at hcall
          have hyy := Lib.hid (hyes hB)
          replace hB := Lib.hid hB
          clear hstep hyes
          go_wp2_with fail
          refine hcall.out.mono ?_
          rintro e w3 ⟨rfl, hb3⟩
          have hb4 := Lib.hid (hb.out.trans (hb3.out.mono hb.out.size))
          clear hcall hb3 c0 c1
          go_wp2_with fail
          go_ret
          exact ⟨q, rfl, Lib.hid (by rw [hasL, hyy.out]; exact decide_eq_true (by omega)), hb4⟩
    · obtain rfl : q = rs.length := by omega
      rw [List.take_length] at hno
      go_wp2_with fail
      go_ret
      exact ⟨-1, rfl, Lib.hid (by rw [hasL, hno.out]; rfl), hb⟩
set_option maxHeartbeats 2000000 in
/-- Has tells whether a set holds a number -/
theorem has_any (rs : List (Nat × Nat)) (v : Value) (most n : Nat) (w : World) (hl : rs.length ≤ 9223372036854775807) (hk : RangesIn w w.heap.size v rs) :
    Calls Tryd.prog 17 #[v, .int .u64 most, .int .u64 n] w fun e w' => e = .returned (.bool (hasL rs most n)) ∧ Below w.heap.size w w' := by
  have hc : Hid (∀ (M N C : Nat) (W : World), HasMem W M N C most n → RangesIn W W.heap.size v rs → Calls Tryd.prog 31 #[v, .func (.func 32) #[] #[.pointer (some ⟨C, 0, none⟩), .pointer (some ⟨N, 0, none⟩)]] W fun e w' => e = .returned (.bool (hasL rs most n)) ∧ Hid (Below W.heap.size W w')) := Lib.hid (fun M N C W hM hk => by
    have hi := Lib.hid (hasIdx_any rs v M N C most n W hl hM hk)
    obtain ⟨ao, cap, rfl, _⟩ := hk
    clear hM
    go_enter Tryd.func31, Tryd.ntmps31
    go_wp2_with fail
    refine hi.out.mono ?_
    rintro e w1 ⟨r, rfl, hr, hb⟩
    go_wp2_with fail
    go_ret
    exact ⟨by rw [← hr.out]; rfl, hb⟩)
  have hk0 := Lib.hid hk
  obtain ⟨ao, cap, rfl, _⟩ := hk
  obtain ⟨W1, hW1⟩ : ∃ W1, W1 = w.alloc (.cells #[.int .u64 most] 35) := ⟨_, rfl⟩
  obtain ⟨W2, hW2⟩ : ∃ W2, W2 = W1.alloc (.cells #[.int .u64 n] 35) := ⟨_, rfl⟩
  obtain ⟨W3, hW3⟩ : ∃ W3, W3 = W2.alloc (.cells #[.func (.func 30) #[] #[.pointer (some ⟨w.heap.size, 0, none⟩)]] 55) := ⟨_, rfl⟩
  have s1 : W1.heap.size = w.heap.size + 1 := by rw [hW1]; simp
  have s2 : W2.heap.size = w.heap.size + 1 + 1 := by rw [hW2]; simp [s1]
  have m1 : Boxed W1 w.heap.size 35 (.int .u64 most) := by rw [hW1]; exact cells_new w _ _
  have m2 : Boxed W2 (w.heap.size + 1) 35 (.int .u64 n) := by rw [hW2, ← s1]; exact cells_new W1 _ _
  have m3 : Boxed W3 (w.heap.size + 1 + 1) 55 (.func (.func 30) #[] #[.pointer (some ⟨w.heap.size, 0, none⟩)]) := by rw [hW3, ← s2]; exact cells_new W2 _ _
  have b1 : Below w.heap.size w W1 := by rw [hW1]; exact (Below.refl _ w).alloc (Nat.le_refl _) _
  have b2 : Below W1.heap.size W1 W2 := by rw [hW2]; exact (Below.refl _ W1).alloc (Nat.le_refl _) _
  have b3 : Below W2.heap.size W2 W3 := by rw [hW3]; exact (Below.refl _ W2).alloc (Nat.le_refl _) _
  have bw : Below w.heap.size w W3 := (b1.trans (b2.mono b1.size)).trans (b3.mono (Nat.le_trans b1.size b2.size))
  have hM3 : HasMem W3 w.heap.size (w.heap.size + 1) (w.heap.size + 1 + 1) most n := ⟨boxed_below (boxed_below m1 b2) b3, boxed_below m2 b3, m3⟩
  have hk3 : RangesIn W3 W3.heap.size (.slice ao rs.length cap) rs := by
    obtain ⟨ao', cap', hv, h | ⟨b, o, ha, hlt, hle, hc⟩⟩ := hk0.out.later bw
    · exact ⟨ao', cap', hv, .inl h⟩
    · exact ⟨ao', cap', hv, .inr ⟨b, o, ha, Nat.lt_of_lt_of_le hlt bw.size, hle, hc⟩⟩
  have hcall := hc.out _ _ _ W3 hM3 hk3
  rw [hW3, hW2, hW1] at hcall bw
  replace hcall := Lib.hid hcall
  replace bw := Lib.hid bw
  clear hc hk0 hM3 hk3 m1 m2 m3 b1 b2 b3 s1 s2 hW3 hW2 hW1
  go_enter Tryd.func17, Tryd.ntmps17
  go_wp2_with fail
  refine hcall.out.mono ?_
  rintro e w1 ⟨rfl, hb⟩
  have hb9 := Lib.hid (bw.out.trans (hb.out.mono bw.out.size))
  clear hb bw hcall
  go_wp2_with fail
  go_ret
  exact ⟨rfl, hb9.out⟩
/-! the document's Has -/
def inOne (most n : Nat) (r : Rng) : Bool :=
  let a := if r.1 = 0 then most else r.1
  let b := if r.2 = 0 then most else r.2
  (decide (a ≤ n) && decide (n ≤ b)) || (decide (b ≤ n) && decide (n ≤ a))
theorem inOne_eq (most n : Nat) (r : Rng) : inOne most n r = hasOne most n r := by
  obtain ⟨f, t⟩ := r
  unfold inOne hasOne realI
  dsimp only
  by_cases hf : f = 0 <;> by_cases ht : t = 0
  all_goals (
    simp only [hf, ht, if_true, if_false, Int.natCast_eq_zero]
    rw [Bool.eq_iff_iff]
    simp only [Bool.or_eq_true, Bool.and_eq_true, decide_eq_true_eq]
    omega)
end Go.Proofs.YtifpmcfadmmkiaaDoor
