/- Has of both, Pick of both: walked. The document's Has; Pick of both; the document's Same: walked. seqset.Has: walked. The work of a request, as things in memory; sweep, look, end: walked. -/
import Derived.Test.YtcnebfmlelcliaaGreatB04
import Derived.Laws.EntriesVeiled
import Derived.Test.YtcnebfmlelcliaaGreatB02
import Derived.Lib.MinMax
import Derived.Deep.QuietTactic
namespace Go.Proofs.YtcnebfmlelcliaaGreat
open Go.RowKit

def realI (most k : Int) : Int := if k = 0 then most else k
/-- one range of a set: does it hold n -/
def hasOne (most n : Nat) (r : Nat × Nat) : Bool := decide (min (realI most r.1) (realI most r.2) ≤ (n : Int)) && decide ((n : Int) ≤ max (realI most r.1) (realI most r.2))
def hasL (rs : List (Nat × Nat)) (most n : Nat) : Bool := rs.any (hasOne most n)
structure HasMem (W : World) (M N C : Nat) (most n : Nat) : Prop where
  bm : Boxed W M 23 (.int .u64 most)
  bn : Boxed W N 23 (.int .u64 n)
  bc : Boxed W C 84 (.func (.func 50) #[] #[.pointer (some ⟨M, 0, none⟩)])
theorem HasMem.later {W W' : World} {M N C most n : Nat} (h : HasMem W M N C most n) (hb : Below W.heap.size W W') : HasMem W' M N C most n := ⟨boxed_below h.bm hb, boxed_below h.bn hb, boxed_below h.bc hb⟩
set_option maxHeartbeats 1000000 in
theorem real_any (k : Int) (M most : Nat) (w : World) (hM : Boxed w M 23 (.int .u64 most)) :
    Calls Tryz.prog 50 #[.int .u64 k, .pointer (some ⟨M, 0, none⟩)] w fun e w' => e = .returned (.int .u64 (realI most k)) ∧ w' = w := by
  have cM := hM.cell
  by_cases h : k = 0
  · have hr : realI most k = most := if_pos h
    rw [hr]
    have h0 : (k == 0) = true := by rw [h]; rfl
    clear hr hM
    go_enter Tryz.func50, Tryz.ntmps50
    go_wp2_with fail
    go_ret
    exact ⟨rfl, rfl⟩
  · have hr : realI most k = k := if_neg h
    rw [hr]
    have h0 : (k == 0) = false := beq_eq_false_iff_ne.2 h
    clear hr hM cM
    go_enter Tryz.func50, Tryz.ntmps50
    go_wp2_with fail
    go_ret
    exact ⟨rfl, rfl⟩
set_option maxRecDepth 100000 in
set_option maxHeartbeats 2000000 in
theorem hasOne_any (r : Nat × Nat) (M N C most n : Nat) (w : World) (hM : HasMem w M N C most n) :
    Calls Tryz.prog 51 #[.agg #[.int .u64 r.1, .int .u64 r.2], .pointer (some ⟨C, 0, none⟩), .pointer (some ⟨N, 0, none⟩)] w fun e w' => e = .returned (.bool (hasOne most n r)) ∧ Hid (Below w.heap.size w w') := by
  obtain ⟨f, t⟩ := r
  dsimp only
  have hb := (Below.refl _ w).alloc (Nat.le_refl _) (.cells #[.int .u64 f, .int .u64 t] 60)
  have hM1 := hM.later hb
  have hf := Lib.hid (fun n => real_any f M most ((w.alloc (.cells #[.int .u64 f, .int .u64 t] 60)).drewN n) hM1.bm)
  have ht := Lib.hid (fun n => real_any t M most ((w.alloc (.cells #[.int .u64 f, .int .u64 t] 60)).drewN n) hM1.bm)
  have cN := hM1.bn.cell
  have cC := hM1.bc.cell
  have hv : Hid (hasOne most n (f, t) = (decide (min (realI most f) (realI most t) ≤ (n : Int)) && decide ((n : Int) ≤ max (realI most f) (realI most t)))) := Lib.hid rfl
  replace hb := Lib.hid hb
  clear hM hM1
  generalize realI most f = a at hf hv
  generalize realI most t = b at ht hv
  by_cases h1 : min a b ≤ (n : Int)
  · rw [decide_eq_true h1, Bool.true_and] at hv
    go_enter Tryz.func51, Tryz.ntmps51
    go_wp2_with fail
    go_quiet ((go_at_call 50; first | exact Calls.quiet_of_same (hf.out _) | exact Calls.quiet_of_same (ht.out _)))
    go_wp2_with fail
    go_ret
    exact ⟨by rw [hv.out]; rfl, Lib.hid (below_drewN hb.out _)⟩
  · rw [decide_eq_false h1, Bool.false_and] at hv
    go_enter Tryz.func51, Tryz.ntmps51
    go_wp2_with fail
    go_quiet ((go_at_call 50; first | exact Calls.quiet_of_same (hf.out _) | exact Calls.quiet_of_same (ht.out _)))
    go_wp2_with fail
    go_ret
    exact ⟨by rw [hv.out]; rfl, Lib.hid (below_drewN hb.out _)⟩
set_option maxRecDepth 100000 in
set_option maxHeartbeats 2000000 in
theorem hasIdx_any (rs : List (Nat × Nat)) (v : Value) (M N C most n : Nat) (w : World) (hl : rs.length ≤ 9223372036854775807) (hM : HasMem w M N C most n) (hk : RangesIn w w.heap.size v rs) :
    Calls Tryz.prog 49 #[v, .func (.func 51) #[] #[.pointer (some ⟨C, 0, none⟩), .pointer (some ⟨N, 0, none⟩)]] w fun e w' => ∃ r : Int, e = .returned (.int .i64 r) ∧ Hid (decide (0 ≤ r) = hasL rs most n) ∧ Hid (Below w.heap.size w w') := by
  have hk0 := Lib.hid hk
  have hwa := Lib.hid hasOne_any
  obtain ⟨ao, cap, rfl, _⟩ := hk
  replace hM := Lib.hid hM
  go_enter Tryz.func49, Tryz.ntmps49
  go_wp2_with fail
  go_loopw [8] (fun v8 wr => ∃ q : Nat, v8 = .int .i64 q ∧ q ≤ rs.length ∧ Hid ((rs.take q).any (hasOne most n) = false) ∧ Hid (Below w.heap.size w wr)) (fun v8 _ => rs.length - (intOf v8).toNat)
  case atStart => exact ⟨0, rfl, Nat.zero_le _, Lib.hid rfl, Lib.hid (Below.refl _ _)⟩
  case round =>
    obtain ⟨q, rfl, hq, hno, hb⟩ := hrel
    by_cases hlt : q < rs.length
    · obtain ⟨ao', cap', hv, hk | ⟨b, o, hao, hbB, hcap, hcells⟩⟩ := hk0.out.later hb.out
      · rw [hk] at hlt; simp at hlt
      · cases hv
        subst hao
        have hc := hcells q hlt
        have hstep : (rs.take (q + 1)).any (hasOne most n) = hasOne most n rs[q] := by rw [List.take_succ_eq_append_getElem hlt, List.any_append, hno.out]; simp
        have hyes : hasOne most n rs[q] = true → rs.any (hasOne most n) = true := fun h => List.any_eq_true.2 ⟨_, List.getElem_mem hlt, h⟩
        have hcall := Lib.hid (hwa.out rs[q] M N C most n wr (hM.out.later hb.out))
        generalize rs[q] = k at hc hstep hyes hcall
        obtain ⟨c0, c1⟩ := hc
        clear hcells
        cases hB : hasOne most n k
        · rw [hB] at hcall hstep
          replace hstep := Lib.hid hstep
          replace hyes := Lib.hid hyes
          replace hB := Lib.hid hB
          go_wp2_with fail
          refine hcall.out.mono ?_
          rintro e w3 ⟨rfl, hb3⟩
          have hb4 := Lib.hid (hb.out.trans (hb3.out.mono hb.out.size))
          clear hcall hb3 c0 c1
          go_wp2_with fail
          go_roundw
          case rel => exact ⟨q + 1, by go_num, by omega, hstep, hb4⟩
          case measure => simp [intOf] <;> omega
        · rw [hB] at hcall
          have hyy := Lib.hid (hyes hB)
          replace hB := Lib.hid hB
          clear hstep hyes
          go_wp2_with fail
          refine hcall.out.mono ?_
          rintro e w3 ⟨rfl, hb3⟩
          have hb4 := Lib.hid (hb.out.trans (hb3.out.mono hb.out.size))
          clear hcall hb3 c0 c1
          go_wp2_with fail
          go_ret
          exact ⟨q, rfl, Lib.hid (by rw [hasL, hyy.out]; exact decide_eq_true (by omega)), hb4⟩
    · obtain rfl : q = rs.length := by omega
      rw [List.take_length] at hno
      go_wp2_with fail
      go_ret
      exact ⟨-1, rfl, Lib.hid (by rw [hasL, hno.out]; rfl), hb⟩
set_option maxHeartbeats 2000000 in
/-- Has tells whether a set holds a number -/
theorem seqHas_any (rs : List (Nat × Nat)) (v : Value) (most n : Nat) (w : World) (hl : rs.length ≤ 9223372036854775807) (hk : RangesIn w w.heap.size v rs) :
    Calls Tryz.prog 30 #[v, .int .u64 most, .int .u64 n] w fun e w' => e = .returned (.bool (hasL rs most n)) ∧ Below w.heap.size w w' := by
  have hc : Hid (∀ (M N C : Nat) (W : World), HasMem W M N C most n → RangesIn W W.heap.size v rs → Calls Tryz.prog 29 #[v, .func (.func 51) #[] #[.pointer (some ⟨C, 0, none⟩), .pointer (some ⟨N, 0, none⟩)]] W fun e w' => e = .returned (.bool (hasL rs most n)) ∧ Hid (Below W.heap.size W w')) := Lib.hid (fun M N C W hM hk => by
    have hi := Lib.hid (hasIdx_any rs v M N C most n W hl hM hk)
    obtain ⟨ao, cap, rfl, _⟩ := hk
    clear hM
    go_enter Tryz.func29, Tryz.ntmps29
    go_wp2_with fail
    refine hi.out.mono ?_
    rintro e w1 ⟨r, rfl, hr, hb⟩
    go_wp2_with fail
    go_ret
    exact ⟨by rw [← hr.out]; rfl, hb⟩)
  have hk0 := Lib.hid hk
  obtain ⟨ao, cap, rfl, _⟩ := hk
  obtain ⟨W1, hW1⟩ : ∃ W1, W1 = w.alloc (.cells #[.int .u64 most] 23) := ⟨_, rfl⟩
  obtain ⟨W2, hW2⟩ : ∃ W2, W2 = W1.alloc (.cells #[.int .u64 n] 23) := ⟨_, rfl⟩
  obtain ⟨W3, hW3⟩ : ∃ W3, W3 = W2.alloc (.cells #[.func (.func 50) #[] #[.pointer (some ⟨w.heap.size, 0, none⟩)]] 84) := ⟨_, rfl⟩
  have s1 : W1.heap.size = w.heap.size + 1 := by rw [hW1]; simp
  have s2 : W2.heap.size = w.heap.size + 1 + 1 := by rw [hW2]; simp [s1]
  have m1 : Boxed W1 w.heap.size 23 (.int .u64 most) := by rw [hW1]; exact cells_new w _ _
  have m2 : Boxed W2 (w.heap.size + 1) 23 (.int .u64 n) := by rw [hW2, ← s1]; exact cells_new W1 _ _
  have m3 : Boxed W3 (w.heap.size + 1 + 1) 84 (.func (.func 50) #[] #[.pointer (some ⟨w.heap.size, 0, none⟩)]) := by rw [hW3, ← s2]; exact cells_new W2 _ _
  have b1 : Below w.heap.size w W1 := by rw [hW1]; exact (Below.refl _ w).alloc (Nat.le_refl _) _
  have b2 : Below W1.heap.size W1 W2 := by rw [hW2]; exact (Below.refl _ W1).alloc (Nat.le_refl _) _
  have b3 : Below W2.heap.size W2 W3 := by rw [hW3]; exact (Below.refl _ W2).alloc (Nat.le_refl _) _
  have bw : Below w.heap.size w W3 := (b1.trans (b2.mono b1.size)).trans (b3.mono (Nat.le_trans b1.size b2.size))
  have hM3 : HasMem W3 w.heap.size (w.heap.size + 1) (w.heap.size + 1 + 1) most n := ⟨boxed_below (boxed_below m1 b2) b3, boxed_below m2 b3, m3⟩
  have hk3 : RangesIn W3 W3.heap.size (.slice ao rs.length cap) rs := by
    obtain ⟨ao', cap', hv, h | ⟨b, o, ha, hlt, hle, hc⟩⟩ := hk0.out.later bw
    · exact ⟨ao', cap', hv, .inl h⟩
    · exact ⟨ao', cap', hv, .inr ⟨b, o, ha, Nat.lt_of_lt_of_le hlt bw.size, hle, hc⟩⟩
  have hcall := hc.out _ _ _ W3 hM3 hk3
  rw [hW3, hW2, hW1] at hcall bw
  replace hcall := Lib.hid hcall
  replace bw := Lib.hid bw
  clear hc hk0 hM3 hk3 m1 m2 m3 b1 b2 b3 s1 s2 hW3 hW2 hW1
  go_enter Tryz.func30, Tryz.ntmps30
  go_wp2_with fail
  refine hcall.out.mono ?_
  rintro e w1 ⟨rfl, hb⟩
  have hb9 := Lib.hid (bw.out.trans (hb.out.mono bw.out.size))
  clear hb bw hcall
  go_wp2_with fail
  go_ret
  exact ⟨rfl, hb9.out⟩
/-! the document's Has -/
def inOne (most n : Nat) (r : Rng) : Bool :=
  let a := if r.1 = 0 then most else r.1
  let b := if r.2 = 0 then most else r.2
  (decide (a ≤ n) && decide (n ≤ b)) || (decide (b ≤ n) && decide (n ≤ a))
theorem inOne_eq (most n : Nat) (r : Rng) : inOne most n r = hasOne most n r := by
  obtain ⟨f, t⟩ := r
  unfold inOne hasOne realI
  dsimp only
  by_cases hf : f = 0 <;> by_cases ht : t = 0
  all_goals (
    simp only [hf, ht, if_true, if_false, Int.natCast_eq_zero]
    rw [Bool.eq_iff_iff]
    simp only [Bool.or_eq_true, Bool.and_eq_true, decide_eq_true_eq]
    omega)
end Go.Proofs.YtcnebfmlelcliaaGreat
namespace Go.Proofs.YtcnebfmlelcliaaGreat
open Go.RowKit

theorem inAny_eq (rs : List Rng) (most n : Nat) : rs.any (inOne most n) = hasL rs most n := by
  unfold hasL
  congr 1
  funext r
  exact inOne_eq most n r
theorem inOne_at (most n f t a b : Nat) (ha : a = if f = 0 then most else f) (hb : b = if t = 0 then most else t) : inOne most n (f, t) = ((decide (a ≤ n) && decide (n ≤ b)) || (decide (b ≤ n) && decide (n ≤ a))) := by
  unfold inOne
  dsimp only
  rw [← ha, ← hb]
/-- e returns numbers -/
def NumsRet (l : List Nat) (w : World) (e : Ending) (w' : World) : Prop := ∃ v, e = .returned v ∧ Hid (Rd w' v l.length (l.map encU)) ∧ Hid (Below w.heap.size w w')
theorem num_cell {w : World} {b o k : Nat} {l : List Nat} (hc : ∀ i u, (l.map encU)[i]? = some u → w.cell? ⟨b, o + i, none⟩ = some u) (hk : k < l.length) : w.cell? ⟨b, o + k, none⟩ = some (.int .u64 (l[k] : Nat)) := hc k _ (by rw [List.getElem?_map, List.getElem?_eq_getElem hk]; rfl)
set_option maxRecDepth 100000 in
set_option maxHeartbeats 4000000 in
theorem sameNums_any (va vb : Value) (a b : List Nat) (w : World) (ha : Rd w va a.length (a.map encU)) (hb : Rd w vb b.length (b.map encU)) (hl : a.length ≤ 9223372036854775807) :
    Calls Tryz.prog 16 #[va, vb] w fun e w' => e = .returned (.bool (decide (a = b))) ∧ Below w.heap.size w w' := by
  have ha0 := Lib.hid ha
  have hb0 := Lib.hid hb
  obtain ⟨ao, cap, rfl, -⟩ := ha
  obtain ⟨ao2, cap2, rfl, -⟩ := hb
  by_cases hlen : a.length = b.length
  · go_enter Tryz.func16, Tryz.ntmps16
    rw [← hlen]
    have hne : ((a.length : Int) != (a.length : Int)) = false := by simp
    have hlen0 := Lib.hid hlen
    clear hlen
    go_wp2_with fail
    go_loopw [5] (fun v5 wr => ∃ q : Nat, v5 = .int .i64 q ∧ q ≤ a.length ∧ Hid (a.take q = b.take q) ∧ Hid (Below w.heap.size w wr)) (fun v5 _ => a.length - (intOf v5).toNat)
    case atStart => exact ⟨0, rfl, Nat.zero_le _, Lib.hid rfl, Lib.hid (Below.refl _ _)⟩
    case round =>
      obtain ⟨q, rfl, hq, heq, hbl⟩ := hrel
      by_cases hlt : q < a.length
      · have hlt2 : q < b.length := by rw [← hlen0.out]; exact hlt
        obtain ⟨b1, o1, hao, hbl1, hcell1⟩ := ha0.out.at_pos (by omega)
        obtain ⟨b2, o2, hao2, hbl2, hcell2⟩ := hb0.out.at_pos (by omega)
        subst hao hao2
        have c1 := (hbl.out.cell (p := ⟨b1, o1 + q, none⟩) hbl1).trans (num_cell hcell1 hlt)
        have c2 := (hbl.out.cell (p := ⟨b2, o2 + q, none⟩) hbl2).trans (num_cell hcell2 hlt2)
        have hstep : a[q] = b[q] → a.take (q + 1) = b.take (q + 1) := fun h => by rw [List.take_succ_eq_append_getElem hlt, List.take_succ_eq_append_getElem hlt2, heq.out, h]
        have hdiff : a[q] ≠ b[q] → decide (a = b) = false := fun h => decide_eq_false (fun e => h (by subst e; rfl))
        generalize a[q] = x at c1 hstep hdiff
        generalize b[q] = y at c2 hstep hdiff
        clear hcell1 hcell2 hlt2
        have hbW := Lib.hid (fun m => below_drewN hbl.out m)
        have hi0 : (0 : Int) ≤ (q : Int) := by omega
        have hi1 : (q : Int) < (a.length : Int) := by omega
        by_cases hxy : x = y
        · have hs := Lib.hid (hstep hxy)
          have hn : ((x : Int) != (y : Int)) = false := by rw [hxy]; simp
          clear hstep hdiff hxy
          go_wp2_with fail
          go_quiet (fail)
          go_wp2_with fail
          go_roundw
          case rel => exact ⟨q + 1, by go_num, by omega, hs, Lib.hid (hbW.out _)⟩
          case measure => simp [intOf] <;> omega
        · have hd := Lib.hid (hdiff hxy)
          have hn : ((x : Int) != (y : Int)) = true := by rw [bne_iff_ne]; omega
          clear hstep hdiff hxy
          go_wp2_with fail
          go_quiet (fail)
          go_wp2_with fail
          go_ret
          exact ⟨by rw [hd.out]; rfl, hbW.out _⟩
      · obtain rfl : q = a.length := by omega
        have hd : Hid (decide (a = b) = true) := Lib.hid (decide_eq_true (by
          have h := heq.out
          rw [List.take_length] at h
          rw [h, hlen0.out, List.take_length]))
        go_wp2_with fail
        go_ret
        exact ⟨by rw [hd.out]; rfl, hbl.out⟩
  · have hn : ((a.length : Int) != (b.length : Int)) = true := by rw [bne_iff_ne]; omega
    have hd : Hid (decide (a = b) = false) := Lib.hid (decide_eq_false (fun e => hlen (by rw [e])))
    clear hlen
    go_enter Tryz.func16, Tryz.ntmps16
    go_wp2_with fail
    go_ret
    exact ⟨by rw [hd.out]; rfl, Below.refl _ _⟩
end Go.Proofs.YtcnebfmlelcliaaGreat
namespace Go.Proofs.YtcnebfmlelcliaaGreat
open Go.RowKit

set_option maxHeartbeats 2000000 in
/-- Has tells whether a set holds a number -/
theorem setHas_any (rs : List (Nat × Nat)) (v : Value) (most n : Nat) (w : World) (hl : rs.length ≤ 9223372036854775807) (hk : RangesIn w w.heap.size v rs) :
    Calls Tryz.prog 30 #[v, .int .u64 most, .int .u64 n] w fun e w' => e = .returned (.bool (hasL rs most n)) ∧ Below w.heap.size w w' := by
  have hc : Hid (∀ (M N C : Nat) (W : World), HasMem W M N C most n → RangesIn W W.heap.size v rs → Calls Tryz.prog 29 #[v, .func (.func 51) #[] #[.pointer (some ⟨C, 0, none⟩), .pointer (some ⟨N, 0, none⟩)]] W fun e w' => e = .returned (.bool (hasL rs most n)) ∧ Hid (Below W.heap.size W w')) := Lib.hid (fun M N C W hM hk => by
    have hi := Lib.hid (hasIdx_any rs v M N C most n W hl hM hk)
    obtain ⟨ao, cap, rfl, _⟩ := hk
    clear hM
    go_enter Tryz.func29, Tryz.ntmps29
    go_wp2_with fail
    refine hi.out.mono ?_
    rintro e w1 ⟨r, rfl, hr, hb⟩
    go_wp2_with fail
    go_ret
    exact ⟨by rw [← hr.out]; rfl, hb⟩)
  have hk0 := Lib.hid hk
  obtain ⟨ao, cap, rfl, _⟩ := hk
  obtain ⟨W1, hW1⟩ : ∃ W1, W1 = w.alloc (.cells #[.int .u64 most] 23) := ⟨_, rfl⟩
  obtain ⟨W2, hW2⟩ : ∃ W2, W2 = W1.alloc (.cells #[.int .u64 n] 23) := ⟨_, rfl⟩
  obtain ⟨W3, hW3⟩ : ∃ W3, W3 = W2.alloc (.cells #[.func (.func 50) #[] #[.pointer (some ⟨w.heap.size, 0, none⟩)]] 84) := ⟨_, rfl⟩
  have s1 : W1.heap.size = w.heap.size + 1 := by rw [hW1]; simp
  have s2 : W2.heap.size = w.heap.size + 1 + 1 := by rw [hW2]; simp [s1]
  have m1 : Boxed W1 w.heap.size 23 (.int .u64 most) := by rw [hW1]; exact cells_new w _ _
  have m2 : Boxed W2 (w.heap.size + 1) 23 (.int .u64 n) := by rw [hW2, ← s1]; exact cells_new W1 _ _
  have m3 : Boxed W3 (w.heap.size + 1 + 1) 84 (.func (.func 50) #[] #[.pointer (some ⟨w.heap.size, 0, none⟩)]) := by rw [hW3, ← s2]; exact cells_new W2 _ _
  have b1 : Below w.heap.size w W1 := by rw [hW1]; exact (Below.refl _ w).alloc (Nat.le_refl _) _
  have b2 : Below W1.heap.size W1 W2 := by rw [hW2]; exact (Below.refl _ W1).alloc (Nat.le_refl _) _
  have b3 : Below W2.heap.size W2 W3 := by rw [hW3]; exact (Below.refl _ W2).alloc (Nat.le_refl _) _
  have bw : Below w.heap.size w W3 := (b1.trans (b2.mono b1.size)).trans (b3.mono (Nat.le_trans b1.size b2.size))
  have hM3 : HasMem W3 w.heap.size (w.heap.size + 1) (w.heap.size + 1 + 1) most n := ⟨boxed_below (boxed_below m1 b2) b3, boxed_below m2 b3, m3⟩
  have hk3 : RangesIn W3 W3.heap.size (.slice ao rs.length cap) rs := by
    obtain ⟨ao', cap', hv, h | ⟨b, o, ha, hlt, hle, hc⟩⟩ := hk0.out.later bw
    · exact ⟨ao', cap', hv, .inl h⟩
    · exact ⟨ao', cap', hv, .inr ⟨b, o, ha, Nat.lt_of_lt_of_le hlt bw.size, hle, hc⟩⟩
  have hcall := hc.out _ _ _ W3 hM3 hk3
  rw [hW3, hW2, hW1] at hcall bw
  replace hcall := Lib.hid hcall
  replace bw := Lib.hid bw
  clear hc hk0 hM3 hk3 m1 m2 m3 b1 b2 b3 s1 s2 hW3 hW2 hW1
  go_enter Tryz.func30, Tryz.ntmps30
  go_wp2_with fail
  refine hcall.out.mono ?_
  rintro e w1 ⟨rfl, hb⟩
  have hb9 := Lib.hid (bw.out.trans (hb.out.mono bw.out.size))
  clear hb bw hcall
  go_wp2_with fail
  go_ret
  exact ⟨rfl, hb9.out⟩
end Go.Proofs.YtcnebfmlelcliaaGreat
namespace Go.Proofs.YtcnebfmlelcliaaGreat
set_option linter.unusedSimpArgs false
open Go.RowKit
attribute [local go_sem ↓] Go.wp_at_zero Go.wp_at_succ

structure Rq where
  op : Int
  session : Nat
  number : Nat
  node : Int
  life : Nat
  try_ : Nat
  box : ByteArray
  to_ : ByteArray
  validity : Nat
  uids : List (Nat × Nat)
  flags : List (List UInt8)
  how : Int
  has : Bool
  since : Nat
  hash : ByteArray
  size : Nat
  sweeps : Nat
structure Oc where
  code : Int
  session : Nat
  validity : Nat
  uids : List Nat
  mods : List Nat
def oc0 : Oc := ⟨0, 0, 0, [], []⟩
def u64T : RT Nat where
  enc := fun n => [.int .u64 n]
  K := 1
  t := 23
  ts := 47
  z := .int .u64 0
  bytes := 8
  len := fun _ => rfl
  one := fun x u hu => by simp at hu; subst hu; rfl
  pos := by decide
  und := Tryz.underlying47
  info := by kernel_rfl
  zs := rfl
  bb := by decide
/-- where a request's slices lie -/
structure RqV where
  au : Option Addr
  cu : Nat
  af : Option Addr
  cf : Nat
def rqCells (q : Rq) (y : RqV) : List Value := [.int .i64 q.op, .int .u64 q.session, .int .u64 q.number, .int .i64 q.node, .int .u64 q.life, .int .u64 q.try_, .string q.box, .string q.to_, .int .u64 q.validity, .slice y.au q.uids.length y.cu, .slice y.af q.flags.length y.cf, .int .i64 q.how, .bool q.has, .int .u64 q.since, .string q.hash, .int .u64 q.size, .int .u64 q.sweeps]
def RqIn (W : World) (q : Rq) (y : RqV) : Prop := RangesIn W W.heap.size (.slice y.au q.uids.length y.cu) q.uids ∧ FlIn W (.slice y.af q.flags.length y.cf) q.flags
theorem RqIn.below {W W' : World} {q : Rq} {y : RqV} (h : RqIn W q y) (hb : Below W.heap.size W W') : RqIn W' q y := ⟨h.1.on hb, Rd.below h.2 hb⟩
/-- where the parts of a work lie -/
structure WkV where
  ab : Option Addr
  cb : Nat
  ah : Option Addr
  ch : Nat
  as_ : Option Addr
  cs : Nat
  aU : Option Addr
  cU : Nat
  aM : Option Addr
  cM : Nat
  bs : List BxV
  S : List (Value × List (List UInt8))
def workCells (k : WkV) (m : Ml) (q : Rq) (y : RqV) (o : Oc) : List Value :=
  [.slice k.ab k.bs.length k.cb, .int .u64 m.nv, .slice k.ah m.homes.length k.ch, .slice k.as_ m.seats.length k.cs, .int .u64 m.ns, .int .u64 m.sweeps,
   .int .i64 q.op, .int .u64 q.session, .int .u64 q.number, .int .i64 q.node, .int .u64 q.life, .int .u64 q.try_, .string q.box, .string q.to_, .int .u64 q.validity, .slice y.au q.uids.length y.cu, .slice y.af q.flags.length y.cf, .int .i64 q.how, .bool q.has, .int .u64 q.since, .string q.hash, .int .u64 q.size, .int .u64 q.sweeps,
   .int .i64 o.code, .int .u64 o.session, .int .u64 o.validity, .slice k.aU o.uids.length k.cU, .slice k.aM o.mods.length k.cM]
def workL (wb : Nat) (k : WkV) (m : Ml) (q : Rq) (y : RqV) (o : Oc) : List Th :=
  boxT wb (workCells k m q y o).toArray 97 :: u64T.row (.slice k.aU o.uids.length k.cU) o.uids :: u64T.row (.slice k.aM o.mods.length k.cM) o.mods :: stateL (.slice k.ab k.bs.length k.cb) (.slice k.ah m.homes.length k.ch) (.slice k.as_ m.seats.length k.cs) k.bs m.homes m.seats k.S
def WkOk (k : WkV) (m : Ml) : Prop := k.bs.map BxV.b = m.boxes ∧ HasB k.S k.bs
/-- what a deed hands back: its errno, the state, the outcome -/
def WkRet (W0 : World) (wb : Nat) (q : Rq) (y : RqV) (res : Int × Ml × Oc) (e : Ending) (w' : World) : Prop := ∃ k, e = .returned (.int .i64 res.1) ∧ Hid (WkOk k res.2.1) ∧ Hid (Zoo W0 w' (workL wb k res.2.1 q y res.2.2))
theorem WkRet.of {W0 : World} {wb : Nat} {q : Rq} {y : RqV} {res res' : Int × Ml × Oc} {e : Ending} {w' : World} (h : res = res') (h2 : WkRet W0 wb q y res' e w') : WkRet W0 wb q y res e w' := h ▸ h2
section
variable {W0 W : World} {L : List Th}
theorem front_perm {α : Type} : ∀ (L : List α) (i : Nat) (hi : i < L.length), L.Perm (L[i] :: L.eraseIdx i)
  | _ :: _, 0, _ => List.Perm.refl _
  | x :: L, i + 1, hi => ((front_perm L i (by simpa using hi)).cons x).trans (List.Perm.swap _ _ _)
theorem Zoo.front {a : Th} (h : Zoo W0 W L) (i : Nat) (hi : L[i]? = some a) : Zoo W0 W (a :: L.eraseIdx i) := by
  obtain ⟨hl, rfl⟩ := List.getElem?_eq_some_iff.1 hi
  exact h.perm (front_perm L i hl)
theorem Zoo.back {b : Th} (i : Nat) (hi : i < L.length) (h : Zoo W0 W (b :: L.eraseIdx i)) : Zoo W0 W (L.set i b) := by
  refine h.perm ?_
  have := front_perm (L.set i b) i (by rw [List.length_set]; exact hi)
  rw [List.getElem_set_self, List.eraseIdx_set_eq] at this
  exact this.symm
end
def lookM (m : Ml) (_ : Rq) (o : Oc) : Int × Ml × Oc := (0, m, o)
def sweepM (m : Ml) (_ : Rq) (o : Oc) : Int × Ml × Oc := if m.sweeps = 9223372036854775807 then (13, m, o) else (0, { m with sweeps := m.sweeps + 1 }, o)
def endM (m : Ml) (q : Rq) (o : Oc) : Int × Ml × Oc := (0, { m with seats := m.seats.filter (fun x => !(x.session == q.session)) }, o)
theorem look_any {W0 W : World} {wb : Nat} {k : WkV} {m : Ml} {q : Rq} {y : RqV} {o : Oc} (hz : Zoo W0 W (workL wb k m q y o)) (hk : WkOk k m) :
    Calls Tryz.prog 37 #[.pointer (some ⟨wb, 0, none⟩)] W (WkRet W0 wb q y (lookM m q o)) := by
  replace hz := Lib.hid hz
  replace hk := Lib.hid hk
  go_enter Tryz.func37, Tryz.ntmps37
  go_wp2_with fail
  go_ret
  exact ⟨k, rfl, hk, hz⟩
set_option maxHeartbeats 4000000 in
theorem sweep_any {W0 W : World} {wb : Nat} {k : WkV} {m : Ml} {q : Rq} {y : RqV} {o : Oc} (hz : Zoo W0 W (workL wb k m q y o)) (hk : WkOk k m) (hsw : m.sweeps ≤ 9223372036854775807) :
    Calls Tryz.prog 44 #[.pointer (some ⟨wb, 0, none⟩)] W (WkRet W0 wb q y (sweepM m q o)) := by
  obtain ⟨hbx, -⟩ := hz.box 0 rfl
  have k5 : W.cell? ⟨wb, 5, none⟩ = some (.int .u64 m.sweeps) := box_cell hbx 5
  have f5 := box_free hbx 5
  unfold sweepM
  by_cases he : m.sweeps = 9223372036854775807
  · rw [if_pos he]
    replace hz := Lib.hid hz
    replace hk := Lib.hid hk
    rw [he] at k5
    replace he := Lib.hid he
    clear hbx hsw
    go_enter Tryz.func44, Tryz.ntmps44
    go_wp2_with fail
    go_ret
    exact ⟨k, rfl, hk, hz⟩
  · rw [if_neg he]
    have hz2 := Lib.hid (hz.setBox 0 rfl 5 (.int .u64 ((m.sweeps + 1 : Nat) : Int)))
    replace hz2 : Hid (Zoo W0 (W.setCell ⟨wb, 5, none⟩ (.int .u64 ((m.sweeps : Int) + 1))) (workL wb k { m with sweeps := m.sweeps + 1 } q y o)) := hz2
    replace hk := Lib.hid hk
    have hne : ((m.sweeps : Int) == 9223372036854775807) = false := by simp; omega
    have hb : m.sweeps + 1 < 18446744073709551616 := by omega
    clear hbx hz
    go_enter Tryz.func44, Tryz.ntmps44
    go_wp2_with fail
    go_ret
    exact ⟨k, rfl, hk, hz2⟩
theorem end1_any {W : World} (x : St) (bx wb : Nat) (session : Nat) (h1 : W.cell? ⟨bx, 0, none⟩ = some (.pointer (some ⟨wb, 0, none⟩))) (h2 : W.cell? ⟨wb, 7, none⟩ = some (.int .u64 session)) :
    Calls Tryz.prog 64 #[.agg (stT.enc x).toArray, .pointer (some ⟨bx, 0, none⟩)] W fun e w' => e = .returned (.bool (x.session == session)) ∧ Hid (Below W.heap.size W w') := by
  have l1 := World.block_lt_of_cell? _ _ h1
  have l2 := World.block_lt_of_cell? _ _ h2
  dsimp only at l1 l2
  have n1 : bx ≠ W.heap.size := by omega
  have n2 : wb ≠ W.heap.size := by omega
  have hb := Lib.hid ((Below.refl _ W).alloc (Nat.le_refl _) (.cells (stCells x).toArray 100))
  unfold stCells at hb
  show Calls Tryz.prog 64 #[.agg #[.int .u64 x.session, .int .u64 x.last, .int .i64 x.node, .int .u64 x.life, .int .u64 x.try_], .pointer (some ⟨bx, 0, none⟩)] W _
  go_enter Tryz.func64, Tryz.ntmps64
  go_wp2_with fail
  go_quiet (fail)
  go_wp2_with fail
  go_ret
  exact ⟨ret_bool (beq_cast _ _), Lib.hid (below_drewN hb.out nq)⟩
set_option maxRecDepth 100000 in
set_option maxHeartbeats 4000000 in
theorem end_any {W0 W : World} {wb : Nat} {k : WkV} {m : Ml} {q : Rq} {y : RqV} {o : Oc} (hz : Zoo W0 W (workL wb k m q y o)) (hk : WkOk k m) (hl : m.seats.length ≤ 100000) :
    Calls Tryz.prog 36 #[.pointer (some ⟨wb, 0, none⟩)] W (WkRet W0 wb q y (endM m q o)) := by
  have hz1 := (hz.newBox #[.pointer (some ⟨wb, 0, none⟩)] 93).drew
  generalize hB : W.heap.size = B at hz1
  have hfr := hz1.front 6 rfl
  have hdel := Lib.hid (endDel_any (.slice k.as_ m.seats.length k.cs) m.seats (fun x => x.session == q.session) (.pointer (some ⟨B, 0, none⟩)) hl hfr (fun x _ W2 l2 h2 => end1_any x B wb q.session (box_cell (h2.box 1 rfl).1 0) (box_cell (h2.box 2 rfl).1 7)))
  obtain ⟨hbx, -⟩ := hz1.box 1 rfl
  obtain ⟨hb0, -⟩ := hz1.box 0 rfl
  generalize hW1 : (W.alloc (.cells #[.pointer (some ⟨wb, 0, none⟩)] 93)) = W1 at *
  have c0 : W1.drew.cell? ⟨B, 0, none⟩ = some (.pointer (some ⟨wb, 0, none⟩)) := box_cell hb0 0
  have c3 : W1.drew.cell? ⟨wb, 3, none⟩ = some (.slice k.as_ m.seats.length k.cs) := box_cell hbx 3
  replace hk := Lib.hid hk
  clear hbx hb0 hz hfr hz1 hl
  go_enter Tryz.func36, Tryz.ntmps36
  go_wp2_with fail
  refine wp_region_hd (fun w' => w'.cell? ⟨B, 0, none⟩ = some (.pointer (some ⟨wb, 0, none⟩)) ∧ w'.cell? ⟨wb, 3, none⟩ = some (.slice k.as_ m.seats.length k.cs)) 8 4 (by kernel_rfl) rfl ⟨by kernel_rfl, by kernel_rfl, by kernel_rfl, by decide⟩ ⟨c0, c3⟩ (fun hok hS0 => ?_)
  refine Hd.take (i := 0) (v := ?tv18) hok rfl (by kernel_rfl) (fun _ _ _ h => h) (Or.inl ⟨by rfl, ?ty18⟩) (by assumption) ?tr18
  case ty18 => (intro w hSw; (try dsimp only at hSw); go_simp; (try with_reducible rfl))
  try simp only [List.getElem_toArray, List.getElem_cons_succ, List.getElem_cons_zero, Act.put, List.setIfInBounds_toArray, List.set_cons_zero, List.set_cons_succ]
  refine Hd.take (i := 1) (v := ?tv19) hok rfl (by kernel_rfl) (fun _ _ _ h => h) (Or.inl ⟨by rfl, ?ty19⟩) (by assumption) ?tr19
  case ty19 => (intro w hSw; (try dsimp only at hSw); go_simp; (try with_reducible rfl))
  try simp only [List.getElem_toArray, List.getElem_cons_succ, List.getElem_cons_zero, Act.put, List.setIfInBounds_toArray, List.set_cons_zero, List.set_cons_succ]
  refine Hd.take (i := 2) (v := ?tv20) hok rfl (by kernel_rfl) (fun _ _ _ h => h) (Or.inl ⟨by rfl, ?ty20⟩) (by assumption) ?tr20
  case ty20 => (intro w hSw; (try dsimp only at hSw); go_simp; (try with_reducible rfl))
  try simp only [List.getElem_toArray, List.getElem_cons_succ, List.getElem_cons_zero, Act.put, List.setIfInBounds_toArray, List.set_cons_zero, List.set_cons_succ]
  refine Hd.take (i := 3) (v := ?tv21) hok rfl (by kernel_rfl) (fun _ _ _ h => h) (Or.inl ⟨by rfl, ?ty21⟩) (by assumption) ?tr21
  case ty21 => (intro w hSw; (try dsimp only at hSw); go_simp; (try with_reducible rfl))
  try simp only [List.getElem_toArray, List.getElem_cons_succ, List.getElem_cons_zero, Act.put, List.setIfInBounds_toArray, List.set_cons_zero, List.set_cons_succ]
  refine Hd.take (i := 4) (v := ?tv22) hok rfl (by kernel_rfl) (fun _ _ _ h => h) (Or.inl ⟨by rfl, ?ty22⟩) (by assumption) ?tr22
  case ty22 => (intro w hSw; (try dsimp only at hSw); go_simp; (try with_reducible rfl))
  try simp only [List.getElem_toArray, List.getElem_cons_succ, List.getElem_cons_zero, Act.put, List.setIfInBounds_toArray, List.set_cons_zero, List.set_cons_succ]
  refine Hd.take (i := 5) (v := ?tv23) hok rfl (by kernel_rfl) (fun _ _ _ h => h) (Or.inl ⟨by rfl, ?ty23⟩) (by assumption) ?tr23
  case ty23 => (intro w hSw; (try dsimp only at hSw); go_simp; (try with_reducible rfl))
  try simp only [List.getElem_toArray, List.getElem_cons_succ, List.getElem_cons_zero, Act.put, List.setIfInBounds_toArray, List.set_cons_zero, List.set_cons_succ]
  refine Hd.take (i := 6) (v := ?tv24) hok rfl (by kernel_rfl) (fun _ _ _ h => h) (Or.inl ⟨by rfl, ?ty24⟩) (by assumption) ?tr24
  case ty24 => (intro w hSw; (try dsimp only at hSw); go_simp; (try with_reducible rfl))
  try simp only [List.getElem_toArray, List.getElem_cons_succ, List.getElem_cons_zero, Act.put, List.setIfInBounds_toArray, List.set_cons_zero, List.set_cons_succ]
  refine Hd.one (i := 7) rfl (by kernel_rfl) (fun K hK => ?_)
  go_simp
  refine hdel.out.mono ?_
  rintro e w3 ⟨v3, rfl, hz3⟩
  dsimp only
  obtain ⟨a3, n3, hv3⟩ := (hz3.out.own 0 rfl).len
  subst hv3
  obtain ⟨hbx, -⟩ := hz3.out.box 2 rfl
  obtain ⟨hb0, -⟩ := hz3.out.box 1 rfl
  have c0 : w3.cell? ⟨B, 0, none⟩ = some (.pointer (some ⟨wb, 0, none⟩)) := box_cell hb0 0
  have c3 : w3.cell? ⟨wb, 3, none⟩ = some (.slice k.as_ m.seats.length k.cs) := box_cell hbx 3
  have f3 := box_free hbx 3
  refine hK _ _ ⟨c0, c3⟩ ?_
  clear hK K
  try simp only [List.getElem_toArray, List.getElem_cons_succ, List.getElem_cons_zero, Act.put, List.setIfInBounds_toArray, List.set_cons_zero, List.set_cons_succ]
  refine Hd.done (by kernel_rfl) ?_
  simp only [List.drop_succ_cons, List.drop_zero]
  have hz4 := Zoo.back (L := boxT B #[.pointer (some ⟨wb, 0, none⟩)] 93 :: workL wb k m q y o) 6 (by show 6 < _ + 8; omega) hz3.out
  have hz5 := hz4.tail.setBox 0 rfl 3 (.slice a3 (endM m q o).2.1.seats.length n3)
  replace hz5 : Hid (Zoo W0 (w3.setCell ⟨wb, 3, none⟩ (.slice a3 (m.seats.filter (fun x => !(x.session == q.session))).length n3)) (workL wb { k with as_ := a3, cs := n3 } (endM m q o).2.1 q y o)) := Lib.hid hz5
  generalize (m.seats.filter (fun x => !(x.session == q.session))).length = n at *
  clear hz3 hz4 hbx hb0 hok hS0 hdel hW1 hB
  go_wp2_with fail
  go_ret
  exact ⟨{ k with as_ := a3, cs := n3 }, rfl, Lib.hid hk.out, hz5⟩
end Go.Proofs.YtcnebfmlelcliaaGreat
