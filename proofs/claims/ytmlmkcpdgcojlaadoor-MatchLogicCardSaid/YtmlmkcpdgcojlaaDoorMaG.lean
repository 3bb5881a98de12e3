/- Wants, few: walked. -/
import Derived.Test.YtmlmkcpdgcojlaaDoorMaF
namespace Go.Proofs.YtmlmkcpdgcojlaaDoor
open Go.RowKit

def wantB (k : KeyD) : Bool := decide (11 ≤ k.kind) && decide (k.kind ≤ 13)
set_option maxHeartbeats 1000000 in
theorem want_any (k : KeyD) (w : World) : Calls Tryd.prog 16 #[keyV k] w fun e w' => e = .returned (.bool (wantB k)) ∧ Hid (Below w.heap.size w w') := by
  obtain ⟨kind, kids, field, text, n, sa, sn, sc, has⟩ := k
  unfold keyV
  dsimp only
  by_cases h1 : 11 ≤ kind
  · have hw : Hid (wantB ⟨kind, kids, field, text, n, sa, sn, sc, has⟩ = decide (kind ≤ 13)) := Lib.hid (by rw [wantB]; dsimp only; rw [decide_eq_true h1]; rfl)
    go_enter Tryd.func16, Tryd.ntmps16
    go_wp2_with fail
    go_ret
    exact ⟨by rw [hw.out]; rfl, Lib.hid ((Below.refl _ w).alloc (Nat.le_refl _) _)⟩
  · have hw : Hid (wantB ⟨kind, kids, field, text, n, sa, sn, sc, has⟩ = false) := Lib.hid (by rw [wantB]; dsimp only; rw [decide_eq_false h1]; rfl)
    go_enter Tryd.func16, Tryd.ntmps16
    go_wp2_with fail
    go_ret
    exact ⟨by rw [hw.out]; rfl, Lib.hid ((Below.refl _ w).alloc (Nat.le_refl _) _)⟩
def wantsL (ks : List KeyD) : Bool := ks.any wantB
set_option maxRecDepth 100000 in
set_option maxHeartbeats 2000000 in
theorem wantIdx_any (ks : List KeyD) (v : Value) (w : World) (hl : ks.length ≤ 1000000) (hk : KeysIn w w.heap.size v ks) :
    Calls Tryd.prog 19 #[v, .func (.func 16) #[] #[]] w fun e w' => ∃ r : Int, e = .returned (.int .i64 r) ∧ Hid (decide (0 ≤ r) = wantsL ks) ∧ Hid (Below w.heap.size w w') := by
  have hk0 := Lib.hid hk
  have hwa := Lib.hid want_any
  obtain ⟨ao, cap, rfl, _⟩ := hk
  go_enter Tryd.func19, Tryd.ntmps19
  go_wp2_with fail
  go_loopw [8] (fun v8 wr => ∃ q : Nat, v8 = .int .i64 q ∧ q ≤ ks.length ∧ Hid ((ks.take q).any wantB = false) ∧ Hid (Below w.heap.size w wr)) (fun v8 _ => ks.length - (intOf v8).toNat)
  case atStart => exact ⟨0, rfl, Nat.zero_le _, Lib.hid rfl, Lib.hid (Below.refl _ _)⟩
  case round =>
    obtain ⟨q, rfl, hq, hno, hb⟩ := hrel
    by_cases hlt : q < ks.length
    · obtain ⟨ao', cap', hv, hk | ⟨b, o, hao, hbB, hcap, hcells⟩⟩ := hk0.out.later hb.out
      · rw [hk] at hlt; simp at hlt
      · cases hv
        subst hao
        have hc := hcells q hlt
        have hstep : (ks.take (q + 1)).any wantB = wantB ks[q] := by rw [List.take_succ_eq_append_getElem hlt, List.any_append, hno.out]; simp
        have hyes : wantB ks[q] = true → ks.any wantB = true := fun h => List.any_eq_true.2 ⟨_, List.getElem_mem hlt, h⟩
        have hcall := Lib.hid (hwa.out ks[q] wr)
        generalize ks[q] = k at hc hstep hyes hcall
        unfold keyV at hcall
        obtain ⟨c0, c1, c2, c3, c4, c5⟩ := hc
        clear hcells
        cases hB : wantB k
        · rw [hB] at hcall hstep
          replace hstep := Lib.hid hstep
          replace hyes := Lib.hid hyes
          replace hB := Lib.hid hB
          go_wp2_with fail
          refine hcall.out.mono ?_
          rintro e w3 ⟨rfl, hb3⟩
          have hb4 := Lib.hid (hb.out.trans (hb3.out.mono hb.out.size))
          clear hcall hb3 c0 c1 c2 c3 c4 c5
          go_wp2_with fail
          go_roundw
          case rel => exact ⟨q + 1, by go_num, by omega, hstep, hb4⟩
          case measure => simp [intOf] <;> omega
        · rw [hB] at hcall
          have hyy := Lib.hid (hyes hB)
          replace hB := Lib.hid hB
          clear hstep hyes
          go_wp2_with fail
          refine hcall.out.mono ?_
          rintro e w3 ⟨rfl, hb3⟩
          have hb4 := Lib.hid (hb.out.trans (hb3.out.mono hb.out.size))
          clear hcall hb3 c0 c1 c2 c3 c4 c5
          go_wp2_with fail
          go_ret
          exact ⟨q, rfl, Lib.hid (by rw [wantsL, hyy.out]; exact decide_eq_true (by omega)), hb4⟩
    · obtain rfl : q = ks.length := by omega
      rw [List.take_length] at hno
      go_wp2_with fail
      go_ret
      exact ⟨-1, rfl, Lib.hid (by rw [wantsL, hno.out]; rfl), hb⟩
set_option maxHeartbeats 1000000 in
theorem wants_any (ks : List KeyD) (v : Value) (w : World) (hl : ks.length ≤ 1000000) (hk : KeysIn w w.heap.size v ks) :
    Calls Tryd.prog 10 #[v] w fun e w' => e = .returned (.bool (wantsL ks)) ∧ Hid (Below w.heap.size w w') := by
  have hi := Lib.hid (wantIdx_any ks v w hl hk)
  obtain ⟨ao, cap, rfl, _⟩ := hk
  have hc : Calls Tryd.prog 15 #[.slice ao ks.length cap, .func (.func 16) #[] #[]] w fun e w' => e = .returned (.bool (wantsL ks)) ∧ Hid (Below w.heap.size w w') := by
    go_enter Tryd.func15, Tryd.ntmps15
    go_wp2_with fail
    refine hi.out.mono ?_
    rintro e w1 ⟨r, rfl, hr, hb⟩
    go_wp2_with fail
    go_ret
    exact ⟨by rw [← hr.out]; rfl, hb⟩
  replace hc := Lib.hid hc
  clear hi
  go_enter Tryd.func10, Tryd.ntmps10
  go_wp2_with fail
  refine hc.out.mono ?_
  rintro e w1 ⟨rfl, hb⟩
  go_wp2_with fail
  go_ret
  exact ⟨rfl, hb⟩
set_option maxHeartbeats 1000000 in
theorem few_any (n : Int) (w : World) : Calls Tryd.prog 12 #[.int .i64 n] w fun e w' => e = .returned (.int .i64 (min n 1048576)) ∧ w = w' := by
  go_enter Tryd.func12, Tryd.ntmps12
  go_wp2_with fail
  go_ret
  exact ⟨rfl, rfl⟩
set_option maxHeartbeats 1000000 in
/-- short, of no keys -/
theorem short_none (s : ByteArray) (hs : s.size ≤ 9223372036854775807) (w : World) : Calls Tryd.prog 7 #[.slice none 0 0, .string s] w fun e w' => e = .returned (.bool (decide (s.size ≤ 4096))) ∧ w = w' := by
  have hf := Lib.hid (few_any (s.size : Int))
  have hr : Hid (decide (s.size ≤ 4096) = decide (min (s.size : Int) 1048576 ≤ 4096)) := Lib.hid (by
    by_cases h : s.size ≤ 4096
    · rw [decide_eq_true h, decide_eq_true (by omega)]
    · rw [decide_eq_false h, decide_eq_false (by omega)])
  generalize min (s.size : Int) 1048576 = z at hf hr
  go_enter Tryd.func7, Tryd.ntmps7
  go_wp2_with fail
  refine (hf.out w).mono ?_
  rintro e w1 ⟨rfl, rfl⟩
  go_wp2_with fail
  go_loop [5, 6] (fun v5 v6 => v5 = .int .i64 z ∧ v6 = .int .i64 0) (fun _ _ => 0)
  case atStart => exact ⟨rfl, rfl⟩
  case round =>
    obtain ⟨rfl, rfl⟩ := hrel
    go_wp2_with fail
    go_ret
    exact ⟨by rw [hr.out]; rfl, rfl⟩
end Go.Proofs.YtmlmkcpdgcojlaaDoor
