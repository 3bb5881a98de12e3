/- few, texts: walked. light: walked. -/
import Derived.Test.YtdobbfjmlnlieaaGreatB17
import Derived.BigQuiet
import Derived.Deep.QuietTactic
import Derived.Lib.MinMax
namespace Go.Proofs.YtdobbfjmlnlieaaGreat
set_option linter.unusedSimpArgs false
open Go.RowKit
attribute [local go_sem ↓] Go.wp_at_zero Go.wp_at_succ

def fewN (n : Nat) : Nat := min n 1048576
theorem fewN_le (n : Nat) : fewN n ≤ 1048576 := Nat.min_le_right _ _
theorem few_any (n : Nat) (w : World) : Calls Tryz.prog 31 #[.int .i64 n] w fun e w' => e = .returned (.int .i64 (fewN n)) ∧ w = w' := by
  have e : min (n : Int) 1048576 = ((fewN n : Nat) : Int) := by unfold fewN; omega
  go_enter Tryz.func31, Tryz.ntmps31
  go_wp2_with fail
  go_ret
  exact ⟨by first | rw [e] | (congr 2), rfl⟩
def textN (s : List UInt8) : Nat := fewN s.length / 16
def textsN (l : List (List UInt8)) : Nat := if 200 < l.length then 1048576 else l.length + (l.map textN).sum
theorem textN_le (s : List UInt8) : textN s ≤ 65536 := by unfold textN; have := fewN_le s.length; omega
theorem sum_le {α : Type} (f : α → Nat) (c : Nat) (h : ∀ x, f x ≤ c) : ∀ l : List α, (l.map f).sum ≤ l.length * c
  | [] => by simp
  | x :: r => by
    have := sum_le f c h r
    have := h x
    simp only [List.map_cons, List.sum_cons, List.length_cons, Nat.succ_mul]
    omega
theorem sum_mem_le {α : Type} (f : α → Nat) (c : Nat) : ∀ (l : List α), (∀ x ∈ l, f x ≤ c) → (l.map f).sum ≤ l.length * c
  | [], _ => by simp
  | x :: r, h => by
    have := sum_mem_le f c r (fun y hy => h y (by simp [hy]))
    have := h x (by simp)
    simp only [List.map_cons, List.sum_cons, List.length_cons, Nat.succ_mul]
    omega
theorem sum_take {α : Type} (f : α → Nat) (l : List α) (j : Nat) (hj : j < l.length) : ((l.take (j + 1)).map f).sum = ((l.take j).map f).sum + f l[j] := by
  rw [List.take_succ_eq_append_getElem hj, List.map_append, List.sum_append]; simp
theorem sum_take_le {α : Type} (f : α → Nat) (c n : Nat) (l : List α) (j : Nat) (hj : j ≤ n) (h : ∀ x ∈ l, f x ≤ c) : ((l.take j).map f).sum ≤ n * c := by
  refine Nat.le_trans (sum_mem_le f c (l.take j) (fun x hx => h x (List.mem_of_mem_take hx))) ?_
  exact Nat.mul_le_mul_right c (by rw [List.length_take]; omega)
theorem textsN_le (l : List (List UInt8)) : textsN l ≤ 13107400 := by
  unfold textsN
  split
  · omega
  · have := sum_le textN 65536 textN_le l
    omega
set_option maxRecDepth 100000 in
set_option maxHeartbeats 4000000 in
theorem texts_any (v : Value) (l : List (List UInt8)) (w : World) (hr : FlIn w v l) : Calls Tryz.prog 32 #[v] w fun e w' => e = .returned (.int .i64 (textsN l)) ∧ w = w' := by
  obtain ⟨ao, cap, rfl, hc⟩ := hr
  by_cases h200 : 200 < l.length
  · have hR : Hid (textsN l = 1048576) := Lib.hid (by unfold textsN; rw [if_pos h200])
    have h200' : (200 : Int) < (l.length : Int) := by omega
    clear hc
    go_enter Tryz.func32, Tryz.ntmps32
    go_wp2_with fail
    go_ret
    exact ⟨by rw [hR.out]; rfl, rfl⟩
  · have h200' : decide ((200 : Int) < (l.length : Int)) = false := decide_eq_false (by omega)
    have hR : Hid (textsN l = l.length + ((l.take l.length).map textN).sum) := Lib.hid (by unfold textsN; rw [if_neg h200, List.take_length])
    replace hc := Lib.hid hc
    go_enter Tryz.func32, Tryz.ntmps32
    go_wp2_with fail
    go_loopw [3, 4] (fun v3 v4 wr => ∃ j N : Nat, v4 = .int .i64 j ∧ v3 = .int .i64 N ∧ j ≤ l.length ∧ Hid (N = l.length + ((l.take j).map textN).sum) ∧ w = wr) (fun _ v4 _ => l.length - (intOf v4).toNat)
    case atStart => exact ⟨0, l.length, rfl, rfl, Nat.zero_le _, Lib.hid (by simp), rfl⟩
    case round =>
      obtain ⟨j, N, rfl, rfl, hj, hN, rfl⟩ := hrel
      have hb := sum_take_le textN 65536 200 l j (by omega) (fun x _ => textN_le x)
      have hNb : N ≤ 13107400 := by have := hN.out; omega
      clear hb
      by_cases hlt : j < l.length
      · rcases hc.out with h | ⟨b, o, rfl, hb2, hle, hcell⟩
        · omega
        · have c0 := rd_cell hcell hlt
          have hs := Lib.hid (sum_take textN l j hlt)
          obtain ⟨x, hx⟩ : ∃ x, l[j] = x := ⟨_, rfl⟩
          rw [hx] at c0 hs
          have hxz : (mkB x).size = x.length := rfl
          have htl := textN_le x
          have hN2 : Hid (N + fewN (mkB x).size / 16 = l.length + ((l.take (j + 1)).map textN).sum) := Lib.hid (by
            rw [hs.out, hN.out, hxz]
            unfold textN
            omega)
          have hjI : (0 : Int) ≤ (j : Int) := by omega
          have hjl : (j : Int) < (l.length : Int) := by omega
          have hfew := Lib.hid (few_any (mkB x).size w)
          have hfl := fewN_le (mkB x).size
          generalize fewN (mkB x).size = fw at *
          clear hx hcell hxz hs hN htl
          go_wp2_with fail
          refine hfew.out.mono ?_
          rintro e w1 ⟨rfl, rfl⟩
          go_wp2_with fail
          go_roundw
          case rel => exact ⟨j + 1, N + fw / 16, by go_num, by congr 1, by omega, hN2, trivial⟩
          case measure => simp [intOf] <;> omega
      · have hl1 : (l.length : Int) ≤ (j : Int) := by omega
        have hRN : Hid (textsN l = N) := Lib.hid (by rw [hR.out, hN.out, show j = l.length from by omega])
        clear hR hN hc
        go_wp2_with fail
        go_ret
        exact ⟨by rw [hRN.out]; rfl, rfl⟩
end Go.Proofs.YtdobbfjmlnlieaaGreat
namespace Go.Proofs.YtdobbfjmlnlieaaGreat
set_option linter.unusedSimpArgs false
open Go.RowKit
attribute [local go_sem ↓] Go.wp_at_zero Go.wp_at_succ

/-- a request, and where its slices lie -/
abbrev RqP := Rq × RqV
def rqT : RT RqP where
  enc := fun p => rqCells p.1 p.2
  K := 17
  t := 41
  ts := 28
  z := .agg #[.int .i64 0, .int .u64 0, .int .u64 0, .int .i64 0, .int .u64 0, .int .u64 0, .string ⟨#[]⟩, .string ⟨#[]⟩, .int .u64 0, .slice none 0 0, .slice none 0 0, .int .i64 0, .bool false, .int .u64 0, .string ⟨#[]⟩, .int .u64 0, .int .u64 0]
  bytes := 192
  len := fun _ => rfl
  one := fun p => rq_one p.1 p.2
  pos := by decide
  und := Tryz.underlying28
  info := by kernel_rfl
  zs := rfl
  bb := by decide
def RqsIn (W : World) (v : Value) (l : List RqP) : Prop := Rd W v l.length (rqT.cells l) ∧ ∀ p ∈ l, RqIn W p.1 p.2
theorem RqsIn.below {W W' : World} {v : Value} {l : List RqP} (h : RqsIn W v l) (hb : Below W.heap.size W W') : RqsIn W' v l := ⟨Rd.below h.1 hb, fun p hp => (h.2 p hp).below hb⟩
def letN (x : Lt) : Nat := textsN x.flags + fewN x.hash.size / 32
def boxN (b : Bx) : Nat := b.letters.length + fewN b.name.size + (b.letters.map letN).sum
def reqN (q : Rq) : Nat := 4 + q.uids.length + textsN q.flags + fewN q.box.size + fewN q.to_.size + fewN q.hash.size / 32
def lightB (m : Ml) (l : List Rq) : Bool :=
  decide (m.boxes.length ≤ 50) && decide (m.seats.length ≤ 100) && decide (m.homes.length ≤ 50) && decide (l.length ≤ 200) && (m.boxes.all fun b => decide (b.letters.length ≤ 500)) && (l.all fun q => decide (q.uids.length ≤ 1000))
    && decide (m.boxes.length + m.seats.length + m.homes.length + (m.boxes.map boxN).sum + (l.map reqN).sum < 9000)
theorem letN_le (x : Lt) : letN x ≤ 13140168 := by unfold letN; have := textsN_le x.flags; have := fewN_le x.hash.size; omega
theorem boxN_le (b : Bx) (h : b.letters.length ≤ 500) : boxN b ≤ 6571133076 := by
  unfold boxN
  have h1 := sum_le letN 13140168 letN_le b.letters
  have h2 := fewN_le b.name.size
  have h3 : b.letters.length * 13140168 ≤ 500 * 13140168 := Nat.mul_le_mul_right _ h
  omega
theorem reqN_le (q : Rq) (h : q.uids.length ≤ 1000) : reqN q ≤ 15238324 := by
  unfold reqN
  have := textsN_le q.flags
  have := fewN_le q.box.size
  have := fewN_le q.to_.size
  have := fewN_le q.hash.size
  omega
theorem light_no {m : Ml} {l : List Rq} (h : m.boxes.length ≤ 50 → m.seats.length ≤ 100 → m.homes.length ≤ 50 → l.length ≤ 200 → (∀ b ∈ m.boxes, b.letters.length ≤ 500) → (∀ q ∈ l, q.uids.length ≤ 1000) → ¬ (m.boxes.length + m.seats.length + m.homes.length + (m.boxes.map boxN).sum + (l.map reqN).sum < 9000)) : lightB m l = false := by
  cases hb : lightB m l with
  | false => rfl
  | true =>
    unfold lightB at hb
    simp only [Bool.and_eq_true, decide_eq_true_eq, List.all_eq_true] at hb
    exact absurd hb.2 (h hb.1.1.1.1.1.1 hb.1.1.1.1.1.2 hb.1.1.1.1.2 hb.1.1.1.2 hb.1.1.2 hb.1.2)
theorem light_yes {m : Ml} {l : List Rq} (h1 : m.boxes.length ≤ 50) (h2 : m.seats.length ≤ 100) (h3 : m.homes.length ≤ 50) (h4 : l.length ≤ 200) (h5 : ∀ b ∈ m.boxes, b.letters.length ≤ 500) (h6 : ∀ q ∈ l, q.uids.length ≤ 1000) : lightB m l = decide (m.boxes.length + m.seats.length + m.homes.length + (m.boxes.map boxN).sum + (l.map reqN).sum < 9000) := by
  unfold lightB
  rw [decide_eq_true h1, decide_eq_true h2, decide_eq_true h3, decide_eq_true h4, List.all_eq_true.2 (fun b hb => decide_eq_true (h5 b hb)), List.all_eq_true.2 (fun b hb => decide_eq_true (h6 b hb))]
  rfl
end Go.Proofs.YtdobbfjmlnlieaaGreat
