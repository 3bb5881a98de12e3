/- short: walked. -/
import Derived.Test.YtmlmkcpdgcojlaaDoorMaJ
import Derived.IntWalk
namespace Go.Proofs.YtmlmkcpdgcojlaaDoor
open Go.RowKit

def fewN (n : Nat) : Nat := min n 1048576
def shortSum : List KeyD → Nat
  | [] => 0
  | k :: r => fewN k.text.size + fewN k.field.size + shortSum r
def shortL (ks : List KeyD) (n : Nat) : Bool := decide (ks.length ≤ 64) && decide (fewN n + shortSum ks ≤ 4096)
theorem fewN_le (n : Nat) : fewN n ≤ 1048576 := Nat.min_le_right _ _
theorem shortSum_app : ∀ (a b : List KeyD), shortSum (a ++ b) = shortSum a + shortSum b
  | [], b => (Nat.zero_add _).symm
  | k :: r, b => by rw [List.cons_append, shortSum, shortSum, shortSum_app r b]; omega
theorem shortSum_le : ∀ (a : List KeyD), shortSum a ≤ a.length * 2097152
  | [] => Nat.zero_le _
  | k :: r => by
    have := shortSum_le r
    have h1 := fewN_le k.text.size
    have h2 := fewN_le k.field.size
    rw [shortSum, List.length_cons]; omega
theorem shortSum_mem : ∀ (a : List KeyD) (k : KeyD), k ∈ a → shortSum a ≤ 4096 → k.text.size ≤ 4096 ∧ k.field.size ≤ 4096
  | x :: r, k, h, hle => by
    rw [shortSum] at hle
    rcases List.mem_cons.1 h with rfl | h
    · have h1 : fewN k.text.size ≤ 4096 := by omega
      have h2 : fewN k.field.size ≤ 4096 := by omega
      unfold fewN at h1 h2
      omega
    · exact shortSum_mem r k h (by omega)
theorem few_same (n : Nat) (w : World) : Calls Tryd.prog 12 #[.int .i64 n] w fun e w' => e = .returned (.int .i64 (fewN n : Nat)) ∧ w' = w :=
  (few_any n w).mono fun e w' ⟨he, hw⟩ => ⟨by rw [he, fewN]; congr 2; omega, hw.symm⟩
set_option maxRecDepth 100000 in
set_option maxHeartbeats 2000000 in
theorem short_any (ks : List KeyD) (v : Value) (s : ByteArray) (_ : s.size ≤ 9223372036854775807) (w : World) (hk : KeysIn w w.heap.size v ks) :
    Calls Tryd.prog 7 #[v, .string s] w fun e w' => e = .returned (.bool (shortL ks s.size)) ∧ Below w.heap.size w w' := by
  have hk0 := Lib.hid hk
  have hfs := Lib.hid (few_same s.size w)
  obtain ⟨ao, cap, rfl, _⟩ := hk
  by_cases h64 : ks.length ≤ 64
  · have hr : Hid (shortL ks s.size = decide (fewN s.size + shortSum ks ≤ 4096)) := Lib.hid (by rw [shortL, decide_eq_true h64, Bool.true_and])
    have hfl := fewN_le s.size
    generalize fewN s.size = f0 at hfs hr hfl
    go_enter Tryd.func7, Tryd.ntmps7
    go_wp2_with fail
    refine hfs.out.mono ?_
    rintro e w1 ⟨rfl, rfl⟩
    clear hfs
    go_wp2_with fail
    go_loopw [5, 6] (fun v5 v6 wr => ∃ q : Nat, v5 = .int .i64 ((f0 + shortSum (ks.take q) : Nat) : Int) ∧ v6 = .int .i64 q ∧ q ≤ ks.length ∧ Hid (Below w1.heap.size w1 wr)) (fun _ v6 _ => ks.length - (intOf v6).toNat)
    case atStart => exact ⟨0, rfl, rfl, Nat.zero_le _, Lib.hid (Below.refl _ _)⟩
    case round =>
      obtain ⟨q, rfl, rfl, hq, hb⟩ := hrel
      by_cases hlt : q < ks.length
      · obtain ⟨ao', cap', hv, hk | ⟨b, o, hao, hbB, hcap, hcells⟩⟩ := hk0.out.later hb.out
        · rw [hk] at hlt; simp at hlt
        · cases hv
          subst hao
          have hc := hcells q hlt
          have hstep : shortSum (ks.take (q + 1)) = shortSum (ks.take q) + (fewN ks[q].text.size + fewN ks[q].field.size) := by rw [List.take_succ_eq_append_getElem hlt, shortSum_app, shortSum, shortSum]; rfl
          have hle := shortSum_le (ks.take q)
          rw [List.length_take] at hle
          have htx := Lib.hid (fun n => few_same ks[q].text.size (wr.drewN n))
          have hfd := Lib.hid (fun n => few_same ks[q].field.size (wr.drewN n))
          have htl := fewN_le ks[q].text.size
          have hdl := fewN_le ks[q].field.size
          generalize fewN ks[q].text.size = t at hstep htx htl
          generalize fewN ks[q].field.size = d at hstep hfd hdl
          generalize ks[q] = k at hc htx hfd
          generalize shortSum (ks.take q) = z at hstep hle
          obtain ⟨c0, c1, c2, c3, c4, c5⟩ := hc
          clear hcells c0 c1 c4 c5
          have e1 : IntKind.i64.wrap (((f0 + z : Nat) : Int) + (t : Int)) = ((f0 + z + t : Nat) : Int) := by rw [IntWalk.i64_in _ (by omega)]; omega
          have e2 : IntKind.i64.wrap (((f0 + z + t : Nat) : Int) + (d : Int)) = ((f0 + z + t + d : Nat) : Int) := by rw [IntWalk.i64_in _ (by omega)]; omega
          have e3 : Hid (RowKit.wrap64 (RowKit.wrap64 ((f0 : Int) + (z : Int) + (t : Int)) + (d : Int)) = ((f0 + (z + (t + d)) : Nat) : Int)) := Lib.hid (by rw [IntWalk.wrap64_in ((f0 : Int) + (z : Int) + (t : Int)) (by omega), IntWalk.wrap64_in _ (by omega)]; omega)
          have hq1 : (q : Int) < (ks.length : Int) := by omega
          replace hstep := Lib.hid hstep
          clear hle htl hdl hfl
          go_wp2_with fail
          go_quiet ((go_at_call 12; first | exact Calls.quiet_of_same (htx.out _) | exact Calls.quiet_of_same (hfd.out _)))
          go_wp2_with fail
          go_roundw
          case rel => exact ⟨q + 1, by rw [hstep.out, ← e3.out], by go_num, by omega, Lib.hid (below_drewN hb.out _)⟩
          case measure => simp [intOf] <;> omega
      · obtain rfl : q = ks.length := by omega
        go_wp2_with fail
        go_ret
        exact ⟨by rw [hr.out]; show Ending.returned (.bool (decide ((f0 : Int) + (shortSum ks : Int) ≤ 4096))) = _; congr 2; exact decide_eq_decide.2 (by omega), hb.out⟩
  · have hr : shortL ks s.size = false := by rw [shortL, decide_eq_false h64, Bool.false_and]
    rw [hr]
    clear hr hfs
    go_enter Tryd.func7, Tryd.ntmps7
    go_wp2_with fail
    go_ret
    exact ⟨rfl, Below.refl _ _⟩
end Go.Proofs.YtmlmkcpdgcojlaaDoor
