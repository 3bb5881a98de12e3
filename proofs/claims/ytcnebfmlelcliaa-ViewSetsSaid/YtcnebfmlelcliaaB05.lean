/- few, texts: walked. great of layer 22: what it counts. (written by tools/gen_Vt.py out of MmI) great of layer 22: walked. (written by tools/gen_Vt.py out of MmJ) Which states are right: plain. An operation on a right state leaves a right state: plain. -/
import Derived.Test.YtcnebfmlelcliaaB04
import Derived.BigQuiet
import Derived.Deep.QuietTactic
import Derived.Lib.MinMax
namespace Go.Proofs.Ytcnebfmlelcliaa
set_option linter.unusedSimpArgs false
open Go.RowKit
attribute [local go_sem ↓] Go.wp_at_zero Go.wp_at_succ

def fewN (n : Nat) : Nat := min n 1048576
theorem fewN_le (n : Nat) : fewN n ≤ 1048576 := Nat.min_le_right _ _
theorem few_any (n : Nat) (w : World) : Calls Try.prog 36 #[.int .i64 n] w fun e w' => e = .returned (.int .i64 (fewN n)) ∧ w = w' := by
  have e : min (n : Int) 1048576 = ((fewN n : Nat) : Int) := by unfold fewN; omega
  go_enter Try.func36, Try.ntmps36
  go_wp2_with fail
  go_ret
  exact ⟨by first | rw [e] | (congr 2), rfl⟩
def textN (s : List UInt8) : Nat := fewN s.length / 16
def textsN (l : List (List UInt8)) : Nat := if 200 < l.length then 1048576 else l.length + (l.map textN).sum
theorem textN_le (s : List UInt8) : textN s ≤ 65536 := by unfold textN; have := fewN_le s.length; omega
theorem sum_le {α : Type} (f : α → Nat) (c : Nat) (h : ∀ x, f x ≤ c) : ∀ l : List α, (l.map f).sum ≤ l.length * c
  | [] => by simp
  | x :: r => by
    have := sum_le f c h r
    have := h x
    simp only [List.map_cons, List.sum_cons, List.length_cons, Nat.succ_mul]
    omega
theorem sum_mem_le {α : Type} (f : α → Nat) (c : Nat) : ∀ (l : List α), (∀ x ∈ l, f x ≤ c) → (l.map f).sum ≤ l.length * c
  | [], _ => by simp
  | x :: r, h => by
    have := sum_mem_le f c r (fun y hy => h y (by simp [hy]))
    have := h x (by simp)
    simp only [List.map_cons, List.sum_cons, List.length_cons, Nat.succ_mul]
    omega
theorem sum_take {α : Type} (f : α → Nat) (l : List α) (j : Nat) (hj : j < l.length) : ((l.take (j + 1)).map f).sum = ((l.take j).map f).sum + f l[j] := by
  rw [List.take_succ_eq_append_getElem hj, List.map_append, List.sum_append]; simp
theorem sum_take_le {α : Type} (f : α → Nat) (c n : Nat) (l : List α) (j : Nat) (hj : j ≤ n) (h : ∀ x ∈ l, f x ≤ c) : ((l.take j).map f).sum ≤ n * c := by
  refine Nat.le_trans (sum_mem_le f c (l.take j) (fun x hx => h x (List.mem_of_mem_take hx))) ?_
  exact Nat.mul_le_mul_right c (by rw [List.length_take]; omega)
theorem textsN_le (l : List (List UInt8)) : textsN l ≤ 13107400 := by
  unfold textsN
  split
  · omega
  · have := sum_le textN 65536 textN_le l
    omega
set_option maxRecDepth 100000 in
set_option maxHeartbeats 4000000 in
theorem texts_any (v : Value) (l : List (List UInt8)) (w : World) (hr : FlIn w v l) : Calls Try.prog 24 #[v] w fun e w' => e = .returned (.int .i64 (textsN l)) ∧ w = w' := by
  obtain ⟨ao, cap, rfl, hc⟩ := hr
  by_cases h200 : 200 < l.length
  · have hR : Hid (textsN l = 1048576) := Lib.hid (by unfold textsN; rw [if_pos h200])
    have h200' : (200 : Int) < (l.length : Int) := by omega
    clear hc
    go_enter Try.func24, Try.ntmps24
    go_wp2_with fail
    go_ret
    exact ⟨by rw [hR.out]; rfl, rfl⟩
  · have h200' : decide ((200 : Int) < (l.length : Int)) = false := decide_eq_false (by omega)
    have hR : Hid (textsN l = l.length + ((l.take l.length).map textN).sum) := Lib.hid (by unfold textsN; rw [if_neg h200, List.take_length])
    replace hc := Lib.hid hc
    go_enter Try.func24, Try.ntmps24
    go_wp2_with fail
    go_loopw [3, 4] (fun v3 v4 wr => ∃ j N : Nat, v4 = .int .i64 j ∧ v3 = .int .i64 N ∧ j ≤ l.length ∧ Hid (N = l.length + ((l.take j).map textN).sum) ∧ w = wr) (fun _ v4 _ => l.length - (intOf v4).toNat)
    case atStart => exact ⟨0, l.length, rfl, rfl, Nat.zero_le _, Lib.hid (by simp), rfl⟩
    case round =>
      obtain ⟨j, N, rfl, rfl, hj, hN, rfl⟩ := hrel
      have hb := sum_take_le textN 65536 200 l j (by omega) (fun x _ => textN_le x)
      have hNb : N ≤ 13107400 := by have := hN.out; omega
      clear hb
      by_cases hlt : j < l.length
      · rcases hc.out with h | ⟨b, o, rfl, hb2, hle, hcell⟩
        · omega
        · have c0 := rd_cell hcell hlt
          have hs := Lib.hid (sum_take textN l j hlt)
          obtain ⟨x, hx⟩ : ∃ x, l[j] = x := ⟨_, rfl⟩
          rw [hx] at c0 hs
          have hxz : (mkB x).size = x.length := rfl
          have htl := textN_le x
          have hN2 : Hid (N + fewN (mkB x).size / 16 = l.length + ((l.take (j + 1)).map textN).sum) := Lib.hid (by
            rw [hs.out, hN.out, hxz]
            unfold textN
            omega)
          have hjI : (0 : Int) ≤ (j : Int) := by omega
          have hjl : (j : Int) < (l.length : Int) := by omega
          have hfew := Lib.hid (few_any (mkB x).size w)
          have hfl := fewN_le (mkB x).size
          generalize fewN (mkB x).size = fw at *
          clear hx hcell hxz hs hN htl
          go_wp2_with fail
          refine hfew.out.mono ?_
          rintro e w1 ⟨rfl, rfl⟩
          go_wp2_with fail
          go_roundw
          case rel => exact ⟨j + 1, N + fw / 16, by go_num, by congr 1, by omega, hN2, trivial⟩
          case measure => simp [intOf] <;> omega
      · have hl1 : (l.length : Int) ≤ (j : Int) := by omega
        have hRN : Hid (textsN l = N) := Lib.hid (by rw [hR.out, hN.out, show j = l.length from by omega])
        clear hR hN hc
        go_wp2_with fail
        go_ret
        exact ⟨by rw [hRN.out]; rfl, rfl⟩
end Go.Proofs.Ytcnebfmlelcliaa
namespace Go.Proofs.Ytcnebfmlelcliaa
set_option linter.unusedSimpArgs false
open Go.RowKit
attribute [local go_sem ↓] Go.wp_at_zero Go.wp_at_succ

/-- a request, and where its slices lie -/
abbrev RqP := Rq × RqV
def rqT : RT RqP where
  enc := fun p => rqCells p.1 p.2
  K := 17
  t := 77
  ts := 74
  z := .agg #[.int .i64 0, .int .u64 0, .int .u64 0, .int .i64 0, .int .u64 0, .int .u64 0, .string ⟨#[]⟩, .string ⟨#[]⟩, .int .u64 0, .slice none 0 0, .slice none 0 0, .int .i64 0, .bool false, .int .u64 0, .string ⟨#[]⟩, .int .u64 0, .int .u64 0]
  bytes := 192
  len := fun _ => rfl
  one := fun p => rq_one p.1 p.2
  pos := by decide
  und := Try.underlying74
  info := by kernel_rfl
  zs := rfl
  bb := by decide
def RqsIn (W : World) (v : Value) (l : List RqP) : Prop := Rd W v l.length (rqT.cells l) ∧ ∀ p ∈ l, RqIn W p.1 p.2
theorem RqsIn.below {W W' : World} {v : Value} {l : List RqP} (h : RqsIn W v l) (hb : Below W.heap.size W W') : RqsIn W' v l := ⟨Rd.below h.1 hb, fun p hp => (h.2 p hp).below hb⟩
def letN (x : Lt) : Nat := textsN x.flags + fewN x.hash.size / 32
def boxN (b : Bx) : Nat := b.letters.length + fewN b.name.size + (b.letters.map letN).sum
def reqN (q : Rq) : Nat := 4 + q.uids.length + textsN q.flags + fewN q.box.size / 16 + fewN q.to_.size / 16 + fewN q.hash.size / 32
def lightB (m : Ml) (l : List Rq) : Bool :=
  decide (m.boxes.length ≤ 50) && decide (m.seats.length ≤ 100) && decide (m.homes.length ≤ 50) && decide (l.length ≤ 200) && (m.boxes.all fun b => decide (b.letters.length ≤ 500)) && (l.all fun q => decide (q.uids.length ≤ 1000))
    && decide (m.boxes.length + m.seats.length + m.homes.length + (m.boxes.map boxN).sum + (l.map reqN).sum ≤ 5000)
theorem letN_le (x : Lt) : letN x ≤ 13140168 := by unfold letN; have := textsN_le x.flags; have := fewN_le x.hash.size; omega
theorem boxN_le (b : Bx) (h : b.letters.length ≤ 500) : boxN b ≤ 6571133076 := by
  unfold boxN
  have h1 := sum_le letN 13140168 letN_le b.letters
  have h2 := fewN_le b.name.size
  have h3 : b.letters.length * 13140168 ≤ 500 * 13140168 := Nat.mul_le_mul_right _ h
  omega
theorem reqN_le (q : Rq) (h : q.uids.length ≤ 1000) : reqN q ≤ 15238324 := by
  unfold reqN
  have := textsN_le q.flags
  have := fewN_le q.box.size
  have := fewN_le q.to_.size
  have := fewN_le q.hash.size
  omega
theorem light_no {m : Ml} {l : List Rq} (h : m.boxes.length ≤ 50 → m.seats.length ≤ 100 → m.homes.length ≤ 50 → l.length ≤ 200 → (∀ b ∈ m.boxes, b.letters.length ≤ 500) → (∀ q ∈ l, q.uids.length ≤ 1000) → ¬ (m.boxes.length + m.seats.length + m.homes.length + (m.boxes.map boxN).sum + (l.map reqN).sum ≤ 5000)) : lightB m l = false := by
  cases hb : lightB m l with
  | false => rfl
  | true =>
    unfold lightB at hb
    simp only [Bool.and_eq_true, decide_eq_true_eq, List.all_eq_true] at hb
    exact absurd hb.2 (h hb.1.1.1.1.1.1 hb.1.1.1.1.1.2 hb.1.1.1.1.2 hb.1.1.1.2 hb.1.1.2 hb.1.2)
theorem light_yes {m : Ml} {l : List Rq} (h1 : m.boxes.length ≤ 50) (h2 : m.seats.length ≤ 100) (h3 : m.homes.length ≤ 50) (h4 : l.length ≤ 200) (h5 : ∀ b ∈ m.boxes, b.letters.length ≤ 500) (h6 : ∀ q ∈ l, q.uids.length ≤ 1000) : lightB m l = decide (m.boxes.length + m.seats.length + m.homes.length + (m.boxes.map boxN).sum + (l.map reqN).sum ≤ 5000) := by
  unfold lightB
  rw [decide_eq_true h1, decide_eq_true h2, decide_eq_true h3, decide_eq_true h4, List.all_eq_true.2 (fun b hb => decide_eq_true (h5 b hb)), List.all_eq_true.2 (fun b hb => decide_eq_true (h6 b hb))]
  rfl
end Go.Proofs.Ytcnebfmlelcliaa
namespace Go.Proofs.Ytcnebfmlelcliaa
set_option linter.unusedSimpArgs false
open Go.RowKit
attribute [local go_sem ↓] Go.wp_at_zero Go.wp_at_succ

theorem few_q (n : Nat) (w : World) : Calls Try.prog 36 #[.int .i64 n] w fun e w' => e = .returned (.int .i64 (fewN n)) ∧ w' = w := (few_any n w).mono fun _ _ h => ⟨h.1, h.2.symm⟩
theorem texts_q {w : World} {v : Value} {l : List (List UInt8)} (hr : FlIn w v l) (n : Nat) : Calls Try.prog 24 #[v] (w.drewN n) fun e w'' => e = .returned (.int .i64 (textsN l)) ∧ w'' = w.drewN n := (texts_any v l (w.drewN n) (Rd.below hr (below_drewN (Below.refl _ _) n))).mono fun _ _ h => ⟨h.1, h.2.symm⟩
theorem idx_map {α β : Type} {f : α → β} {l : List α} {m : List β} (h : l.map f = m) {i : Nat} (hi : i < l.length) : m[i]? = some (f l[i]) := by
  rw [← h, List.getElem?_map, List.getElem?_eq_getElem hi]; rfl
theorem light_off {m : Ml} {l : List Rq} {i : Nat} {b : Bx} (hb : m.boxes[i]? = some b) (h : 500 < b.letters.length) : lightB m l = false :=
  light_no (fun _ _ _ _ h5 _ => absurd (h5 b (List.mem_of_getElem? hb)) (by omega))
set_option maxRecDepth 100000 in
set_option maxHeartbeats 16000000 in
theorem great_any_vw {W : World} {m : Ml} {l : List RqP} (v lv : Value) (hin : MlIn W v m) (hl : RqsIn W lv l) :
    Calls Try.prog 20 #[v, lv] W fun e w' => e = .returned (.bool (!(lightB m (l.map (·.1))))) ∧ Hid (Below W.heap.size W w') := by
  obtain ⟨vb, vh, vs, bs, rfl, hbs, hib, hih, his⟩ := hin
  have hlb : bs.length = m.boxes.length := by rw [← hbs, List.length_map]
  have hib0 := Lib.hid (fun (W' : World) (h : Below W.heap.size W W') => hib.below h)
  have hl0 := Lib.hid (fun (W' : World) (h : Below W.heap.size W W') => hl.below h)
  obtain ⟨ab, cb, rfl, -⟩ := hib.1
  obtain ⟨ah, ch, rfl, -⟩ := hih
  obtain ⟨as_, cs, rfl, -⟩ := his
  obtain ⟨al, cl, rfl, -⟩ := hl.1
  have hz1 := (Zoo.nil W).newBox [.slice ab bs.length cb, .int .u64 m.nv, .slice ah m.homes.length ch, .slice as_ m.seats.length cs, .int .u64 m.ns, .int .u64 m.sweeps].toArray 47
  generalize hMB : W.heap.size = MB at hz1
  generalize hWa : (W.alloc (.cells [.slice ab bs.length cb, .int .u64 m.nv, .slice ah m.homes.length ch, .slice as_ m.seats.length cs, .int .u64 m.ns, .int .u64 m.sweeps].toArray 47)) = Wa at hz1
  have hmb := (hz1.box 0 rfl).1
  have q0 : Wa.cell? ⟨MB, 0, none⟩ = some (.slice ab bs.length cb) := box_cell hmb 0
  have q2 : Wa.cell? ⟨MB, 2, none⟩ = some (.slice ah m.homes.length ch) := box_cell hmb 2
  have q3 : Wa.cell? ⟨MB, 3, none⟩ = some (.slice as_ m.seats.length cs) := box_cell hmb 3
  have hbel : Hid (Below MB W Wa) := Lib.hid (hMB ▸ hz1.bel)
  have hmb0 : Hid (∀ wr, Below Wa.heap.size Wa wr → wr.cell? ⟨MB, 0, none⟩ = some (.slice ab bs.length cb)) := Lib.hid (fun wr h => box_cell (heap_below hmb h) 0)
  replace hbs := Lib.hid hbs
  replace hlb := Lib.hid hlb
  have hz1b := Lib.hid hz1.bel
  unfold mlVal
  by_cases c1 : 50 < bs.length
  · have c1' : (50 : Int) < (bs.length : Int) := by omega
    have hr := Lib.hid (light_no (m := m) (l := l.map (·.1)) (fun h => absurd h (by have := hlb.out; omega)))
    clear hib hl hmb hz1 c1
    go_enter Try.func20, Try.ntmps20
    go_wp2_with fail
    go_ret
    exact ⟨ret_bool (by rw [hr.out]; rfl), hbel⟩
  have c1' : decide ((50 : Int) < (bs.length : Int)) = false := decide_eq_false (by omega)
  by_cases c2 : 100 < m.seats.length
  · have c2' : (100 : Int) < (m.seats.length : Int) := by omega
    have hr := Lib.hid (light_no (m := m) (l := l.map (·.1)) (fun _ h => absurd h (by omega)))
    clear hib hl hmb hz1 c1 c2
    go_enter Try.func20, Try.ntmps20
    go_wp2_with fail
    go_ret
    exact ⟨ret_bool (by rw [hr.out]; rfl), hbel⟩
  have c2' : decide ((100 : Int) < (m.seats.length : Int)) = false := decide_eq_false (by omega)
  by_cases c3 : 50 < m.homes.length
  · have c3' : (50 : Int) < (m.homes.length : Int) := by omega
    have hr := Lib.hid (light_no (m := m) (l := l.map (·.1)) (fun _ _ h => absurd h (by omega)))
    clear hib hl hmb hz1 c1 c2 c3
    go_enter Try.func20, Try.ntmps20
    go_wp2_with fail
    go_ret
    exact ⟨ret_bool (by rw [hr.out]; rfl), hbel⟩
  have c3' : decide ((50 : Int) < (m.homes.length : Int)) = false := decide_eq_false (by omega)
  by_cases c4 : 200 < l.length
  · have c4' : (200 : Int) < (l.length : Int) := by omega
    have hr := Lib.hid (light_no (m := m) (l := l.map (·.1)) (fun _ _ _ h => absurd h (by rw [List.length_map]; omega)))
    clear hib hl hmb hz1 c1 c2 c3 c4
    go_enter Try.func20, Try.ntmps20
    go_wp2_with fail
    go_ret
    exact ⟨ret_bool (by rw [hr.out]; rfl), hbel⟩
  have c4' : decide ((200 : Int) < (l.length : Int)) = false := decide_eq_false (by omega)
  have e1 : bs.length ≤ 50 := by omega
  have e2 : m.seats.length ≤ 100 := by omega
  have e3 : m.homes.length ≤ 50 := by omega
  have e4 : l.length ≤ 200 := by omega
  clear hib hl hmb hz1 c1 c2 c3 c4
  go_enter Try.func20, Try.ntmps20
  go_wp2_with fail
  clear q0 q2 q3 c1' c2' c3' c4'
  go_loopw [5, 6] (fun v5 v6 wr => ∃ i N : Nat, v6 = .int .i64 i ∧ v5 = .int .i64 N ∧ i ≤ bs.length ∧ Hid (N = bs.length + m.seats.length + m.homes.length + ((m.boxes.take i).map boxN).sum) ∧ Hid (∀ j b, j < i → m.boxes[j]? = some b → b.letters.length ≤ 500) ∧ Hid (Below Wa.heap.size Wa wr)) (fun _ v6 _ => bs.length - (intOf v6).toNat)
  case atStart => exact ⟨0, bs.length + m.seats.length + m.homes.length, rfl, by go_num, Nat.zero_le _, Lib.hid (by simp), Lib.hid (fun j b hj => by omega), Lib.hid (Below.refl _ _)⟩
  case round =>
    obtain ⟨i, N, rfl, rfl, hi, hN, h500, hb⟩ := hrel
    have hbW : Below W.heap.size W wr := hz1b.out.trans (hb.out.mono hz1b.out.size)
    by_cases hlt : i < bs.length
    · have hib1 := hib0.out wr hbW
      obtain ⟨b, bo, cap, hv, -, hblt, hcells⟩ := bxT.rd_cells hib1.1 hlt
      injection hv with hv1 hv2 hv3
      subst hv1 hv3
      have q0 := hmb0.out wr hb.out
      have hmx := idx_map hbs.out hlt
      have hLts := hib1.2 _ (List.getElem_mem hlt)
      have h5s : Hid (m.boxes[i]? = some bs[i].b) := Lib.hid hmx
      have hsum : Hid (((m.boxes.take (i + 1)).map boxN).sum = ((m.boxes.take i).map boxN).sum + boxN bs[i].b) := Lib.hid (by
        have hi2 : i < m.boxes.length := by have := hlb.out; omega
        have e := List.getElem?_eq_getElem hi2
        rw [hmx] at e
        rw [sum_take boxN m.boxes i hi2, ← Option.some.inj e])
      have hNb : N ≤ 200 + 50 * 6571133076 := by
        have h1 := hN.out
        have h2 := sum_mem_le boxN 6571133076 (m.boxes.take i) (fun b hb => by
          obtain ⟨j, hj, rfl⟩ := List.mem_iff_getElem.1 hb
          rw [List.length_take] at hj
          rw [List.getElem_take]
          exact boxN_le _ (h500.out j _ (by omega) (List.getElem?_eq_getElem (by omega))))
        have h3 : (m.boxes.take i).length ≤ 50 := by rw [List.length_take]; omega
        have h4 := Nat.mul_le_mul_right 6571133076 h3
        omega
      have c0 := hcells 0 _ rfl
      have c4 := hcells 4 _ rfl
      obtain ⟨x, hx⟩ : ∃ x, bs[i] = x := ⟨_, rfl⟩
      rw [hx] at c0 c4 hLts h5s hsum
      obtain ⟨nm, va, nx, hg, rows, xa, xc⟩ := x
      replace c0 : wr.cell? ⟨b, bo + i * 5, none⟩ = some (.string nm) := c0
      replace c4 : wr.cell? ⟨b, bo + i * 5 + 4, none⟩ = some (.slice xa rows.length xc) := c4
      replace hLts := Lib.hid hLts
      have hi0 : (0 : Int) ≤ (i : Int) := by omega
      have hi1 : (i : Int) < (bs.length : Int) := by omega
      clear hib1 hcells hmx hx
      by_cases h5 : 500 < rows.length
      · have h5' : (500 : Int) < (rows.length : Int) := by omega
        have hr := Lib.hid (light_off (l := l.map (·.1)) h5s.out (by show 500 < (rows.map LtV.x).length; rw [List.length_map]; exact h5))
        have hbF := Lib.hid hbW
        clear h5 hbW hN h500 hsum hLts h5s hb
        go_wp2_with fail
        go_ret
        exact ⟨ret_bool (by rw [hr.out]; rfl), by first | exact hbF | (rw [← hMB]; exact hbF)⟩
      · have h5' : decide ((500 : Int) < (rows.length : Int)) = false := decide_eq_false (by omega)
        have h5b : rows.length ≤ 500 := by omega
        have hfl := fewN_le nm.size
        clear h5
        go_wp2_with fail
        go_quiet ((go_at_call 36; exact Calls.quiet_of_same (few_q nm.size _)))
        go_wp2_with fail
        have hbQ : Hid (Below Wa.heap.size Wa (wr.drewN nq)) := Lib.hid (below_drewN hb.out nq)
        have hbR0 : Hid (Below wr.heap.size wr (wr.drewN nq)) := Lib.hid (below_drewN (Below.refl _ _) nq)
        generalize wr.drewN nq = wq at hbQ hbR0 ⊢
        generalize wr = wo at *
        go_loopw [5, 7] (fun v5 v7 wk => ∃ k N2 : Nat, v7 = .int .i64 k ∧ v5 = .int .i64 N2 ∧ k ≤ rows.length ∧ Hid (N2 = N + rows.length + fewN nm.size + (((rows.map LtV.x).take k).map letN).sum) ∧ Hid (Below Wa.heap.size Wa wk) ∧ Hid (Below wo.heap.size wo wk)) (fun _ v7 _ => rows.length - (intOf v7).toNat)
        case atStart => exact ⟨0, N + rows.length + fewN nm.size, rfl, by go_num, Nat.zero_le _, Lib.hid (by simp), hbQ, hbR0⟩
        case round =>
          generalize wr = wk at *
          obtain ⟨k, N2, rfl, rfl, hk, hN2, hbA, hbR⟩ := hrel
          have q0' := hmb0.out wk hbA.out
          have c4' := (hbR.out.cell (p := ⟨b, bo + i * 5 + 4, none⟩) hblt).trans c4
          have hN2b : N2 ≤ 200 + 50 * 6571133076 + 500 + 1048576 + 500 * 13140168 := by
            have h1 := hN2.out
            have h2 := sum_take_le letN 13140168 500 (rows.map LtV.x) k (by omega) (fun y _ => letN_le y)
            omega
          by_cases hkl : k < rows.length
          · obtain ⟨b2, bo2, cap2, hv, -, hb2lt, hcells2⟩ := ltT.rd_cells (Rd.below hLts.out.1 hbR.out) hkl
            injection hv with hv1 hv2 hv3
            subst hv1 hv3
            have hflg : FlIn wk _ _ := Rd.below (hLts.out.2 _ (List.getElem_mem hkl)) hbR.out
            have hsum2 : (((rows.map LtV.x).take (k + 1)).map letN).sum = (((rows.map LtV.x).take k).map letN).sum + letN rows[k].x := by
              rw [sum_take letN (rows.map LtV.x) k (by rw [List.length_map]; exact hkl), List.getElem_map]
            have d1 := hcells2 1 _ rfl
            have d3 := hcells2 3 _ rfl
            obtain ⟨z, hz⟩ : ∃ z, rows[k] = z := ⟨_, rfl⟩
            rw [hz] at hflg hsum2 d1 d3
            replace d1 : wk.cell? ⟨b2, bo2 + k * 5 + 1, none⟩ = some (.slice z.a z.x.flags.length z.c) := d1
            replace d3 : wk.cell? ⟨b2, bo2 + k * 5 + 3, none⟩ = some (.string z.x.hash) := d3
            have hfw := fewN_le z.x.hash.size
            have htx := textsN_le z.x.flags
            have hN3 : Hid (N2 + textsN z.x.flags + fewN z.x.hash.size / 32 = N + rows.length + fewN nm.size + (((rows.map LtV.x).take (k + 1)).map letN).sum) := Lib.hid (by
              rw [hsum2, hN2.out]
              unfold letN
              omega)
            have hk0 : (0 : Int) ≤ (k : Int) := by omega
            have hk1 : (k : Int) < (rows.length : Int) := by omega
            replace hflg := Lib.hid hflg
            replace c4' : wk.cell? ⟨b, bo + i * 5 + 4, none⟩ = some (.slice (some ⟨b2, bo2, none⟩) rows.length xc) := c4'
            have htq : Hid (∀ n, Calls Try.prog 24 #[.slice z.a z.x.flags.length z.c] (wk.drewN n) fun e w'' => e = .returned (.int .i64 (textsN z.x.flags)) ∧ w'' = wk.drewN n) := Lib.hid (fun n => texts_q hflg.out n)
            clear hcells2 hsum2 hN2 hz c0 c4 q0
            generalize textsN z.x.flags = tx at *
            have hfq : Hid (∀ w, Calls Try.prog 36 #[.int .i64 z.x.hash.size] w fun e w' => e = .returned (.int .i64 (fewN z.x.hash.size)) ∧ w' = w) := Lib.hid (fun w => few_q _ w)
            generalize fewN z.x.hash.size = fw at *
            go_wp2_with fail
            go_quiet (first | (go_at_call 36; exact Calls.quiet_of_same (hfq.out _)) | (go_at_call 24; exact Calls.quiet_of_same (htq.out _)))
            go_wp2_with fail
            go_roundw
            case rel => exact ⟨k + 1, N2 + tx + fw / 32, by go_num, by congr 1, by omega, hN3, Lib.hid (below_drewN hbA.out nq), Lib.hid (below_drewN hbR.out nq)⟩
            case measure => simp [intOf] <;> omega
          · have hk1 : (rows.length : Int) ≤ (k : Int) := by omega
            have hk2 : ¬ ((k : Int) < (rows.length : Int)) := by omega
            have hNF : Hid (N2 = bs.length + m.seats.length + m.homes.length + ((m.boxes.take (i + 1)).map boxN).sum) := Lib.hid (by
              have hke : k = (rows.map LtV.x).length := by rw [List.length_map]; omega
              have h1 := hN2.out
              rw [hke, List.take_length] at h1
              rw [hsum.out, h1, hN.out]
              unfold boxN BxV.b
              dsimp only
              rw [List.length_map]
              omega)
            have h5F : Hid (∀ j b, j < i + 1 → m.boxes[j]? = some b → b.letters.length ≤ 500) := Lib.hid (fun j bb hj hbb => by
              by_cases e : j = i
              · subst e
                rw [h5s.out] at hbb
                injection hbb with hbb
                subst hbb
                show (rows.map LtV.x).length ≤ 500
                rw [List.length_map]; exact h5b
              · exact h500.out j bb (by omega) hbb)
            clear hN hN2 hsum h500 h5s c0 c4 q0 hLts
            go_wp2_with fail
            go_roundw
            case rel => exact ⟨i + 1, N2, by go_num, rfl, by omega, hNF, h5F, hbA⟩
            case measure => simp [intOf] <;> omega
    · have hi1 : (bs.length : Int) ≤ (i : Int) := by omega
      have hi2 : ¬ ((i : Int) < (bs.length : Int)) := by omega
      have q0 := hmb0.out wr hb.out
      have hall : Hid (∀ b ∈ m.boxes, b.letters.length ≤ 500) := Lib.hid (fun b hb2 => by
        obtain ⟨j, hj, rfl⟩ := List.mem_iff_getElem.1 hb2
        exact h500.out j _ (by have := hlb.out; omega) (List.getElem?_eq_getElem hj))
      have hNA : Hid (N = bs.length + m.seats.length + m.homes.length + (m.boxes.map boxN).sum) := Lib.hid (by
        rw [hN.out, show i = m.boxes.length from by have := hlb.out; omega, List.take_length])
      have hNb : N ≤ 200 + 50 * 6571133076 := by
        have h1 := hNA.out
        have h2 := sum_mem_le boxN 6571133076 m.boxes (fun b hb => boxN_le _ (hall.out b hb))
        have h3 : m.boxes.length ≤ 50 := by have := hlb.out; omega
        have h4 := Nat.mul_le_mul_right 6571133076 h3
        omega
      clear hN h500
      go_wp2_with fail
      generalize wr = wo at *
      go_loopw [5, 8] (fun v5 v8 wr => ∃ j N2 : Nat, v8 = .int .i64 j ∧ v5 = .int .i64 N2 ∧ j ≤ l.length ∧ Hid (N2 = N + (((l.map (·.1)).take j).map reqN).sum) ∧ Hid (∀ k q, k < j → (l.map (·.1))[k]? = some q → q.uids.length ≤ 1000) ∧ Hid (Below Wa.heap.size Wa wr)) (fun _ v8 _ => l.length - (intOf v8).toNat)
      case atStart => exact ⟨0, N, rfl, rfl, Nat.zero_le _, Lib.hid (by simp), Lib.hid (fun k q hk => by omega), hb⟩
      case round =>
        obtain ⟨j, N2, rfl, rfl, hj, hN2, h1000, hbA⟩ := hrel
        have hbW2 : Below W.heap.size W wr := hz1b.out.trans (hbA.out.mono hz1b.out.size)
        clear q0
        by_cases hlt : j < l.length
        · have hl1 := hl0.out wr hbW2
          obtain ⟨b, bo, cap, hv, -, hblt, hcells⟩ := rqT.rd_cells hl1.1 hlt
          injection hv with hv1 hv2 hv3
          subst hv1 hv3
          have hqi := hl1.2 _ (List.getElem_mem hlt)
          have hjm : j < (l.map (·.1)).length := by rw [List.length_map]; exact hlt
          have hmq : (l.map (·.1))[j]? = some l[j].1 := by rw [List.getElem?_map, List.getElem?_eq_getElem hlt]; rfl
          have hsum : (((l.map (·.1)).take (j + 1)).map reqN).sum = (((l.map (·.1)).take j).map reqN).sum + reqN l[j].1 := by
            rw [sum_take reqN (l.map (·.1)) j hjm, List.getElem_map]
          have hN2b : N2 ≤ 200 + 50 * 6571133076 + 200 * 15238324 := by
            have h1 := hN2.out
            have h2 := sum_mem_le reqN 15238324 ((l.map (·.1)).take j) (fun q hq => by
              obtain ⟨k, hk, rfl⟩ := List.mem_iff_getElem.1 hq
              rw [List.length_take] at hk
              rw [List.getElem_take]
              exact reqN_le _ (h1000.out k _ (by omega) (List.getElem?_eq_getElem (by omega))))
            have h3 : ((l.map (·.1)).take j).length ≤ 200 := by rw [List.length_take]; omega
            have h4 := Nat.mul_le_mul_right 15238324 h3
            omega
          obtain ⟨p, hp⟩ : ∃ p, l[j] = p := ⟨_, rfl⟩
          rw [hp] at hcells hqi hmq hsum
          obtain ⟨q, y⟩ := p
          dsimp only at hqi hmq hsum
          have d6 : wr.cell? ⟨b, bo + (j * 17 + 6), none⟩ = some (.string q.box) := hcells 6 _ rfl
          have d7 : wr.cell? ⟨b, bo + (j * 17 + 7), none⟩ = some (.string q.to_) := hcells 7 _ rfl
          have d9 : wr.cell? ⟨b, bo + (j * 17 + 9), none⟩ = some (.slice y.au q.uids.length y.cu) := hcells 9 _ rfl
          have d10 : wr.cell? ⟨b, bo + (j * 17 + 10), none⟩ = some (.slice y.af q.flags.length y.cf) := hcells 10 _ rfl
          have d14 : wr.cell? ⟨b, bo + (j * 17 + 14), none⟩ = some (.string q.hash) := hcells 14 _ rfl
          rw [← Nat.add_assoc] at d6 d7 d9 d10 d14
          have hj0 : (0 : Int) ≤ (j : Int) := by omega
          have hj1 : (j : Int) < (l.length : Int) := by omega
          have htq : Hid (∀ n, Calls Try.prog 24 #[.slice y.af q.flags.length y.cf] (wr.drewN n) fun e w'' => e = .returned (.int .i64 (textsN q.flags)) ∧ w'' = wr.drewN n) := Lib.hid (fun n => texts_q hqi.2 n)
          clear hcells hqi hl1 hjm hp
          by_cases hu : 1000 < q.uids.length
          · have hu' : (1000 : Int) < (q.uids.length : Int) := by omega
            have hr := Lib.hid (light_no (m := m) (l := l.map (·.1)) (fun _ _ _ _ _ h6 => absurd (h6 q (List.mem_of_getElem? hmq)) (by omega)))
            have hbF := Lib.hid hbW2
            clear hu hbW2 hN2 h1000 hsum htq hbA hmq
            go_wp2_with fail
            go_ret
            exact ⟨ret_bool (by rw [hr.out]; rfl), by first | exact hbF | (rw [← hMB]; exact hbF)⟩
          · have hu' : decide ((1000 : Int) < (q.uids.length : Int)) = false := decide_eq_false (by omega)
            have hu2 : q.uids.length ≤ 1000 := by omega
            have hN3 : Hid (N2 + 4 + q.uids.length + textsN q.flags + fewN q.box.size / 16 + fewN q.to_.size / 16 + fewN q.hash.size / 32 = N + (((l.map (·.1)).take (j + 1)).map reqN).sum) := Lib.hid (by
              rw [hsum, hN2.out]
              unfold reqN
              omega)
            have h1F : Hid (∀ k q', k < j + 1 → (l.map (·.1))[k]? = some q' → q'.uids.length ≤ 1000) := Lib.hid (fun k q' hk hq' => by
              by_cases e : k = j
              · subst e
                rw [hmq] at hq'
                injection hq' with hq'
                subst hq'
                exact hu2
              · exact h1000.out k q' (by omega) hq')
            have htx := textsN_le q.flags
            have f1 := fewN_le q.box.size
            have f2 := fewN_le q.to_.size
            have f3 := fewN_le q.hash.size
            have g1 : Hid (∀ w, Calls Try.prog 36 #[.int .i64 q.box.size] w fun e w' => e = .returned (.int .i64 (fewN q.box.size)) ∧ w' = w) := Lib.hid (fun w => few_q _ w)
            have g2 : Hid (∀ w, Calls Try.prog 36 #[.int .i64 q.to_.size] w fun e w' => e = .returned (.int .i64 (fewN q.to_.size)) ∧ w' = w) := Lib.hid (fun w => few_q _ w)
            have g3 : Hid (∀ w, Calls Try.prog 36 #[.int .i64 q.hash.size] w fun e w' => e = .returned (.int .i64 (fewN q.hash.size)) ∧ w' = w) := Lib.hid (fun w => few_q _ w)
            clear hu hN2 h1000 hsum hmq hbW2
            generalize textsN q.flags = tx at *
            generalize fewN q.box.size = fb at *
            generalize fewN q.to_.size = ft at *
            generalize fewN q.hash.size = fh at *
            go_wp2_with fail
            go_quiet (first | (go_at_call 36; first | exact Calls.quiet_of_same (g1.out _) | exact Calls.quiet_of_same (g2.out _) | exact Calls.quiet_of_same (g3.out _)) | (go_at_call 24; exact Calls.quiet_of_same (htq.out _)))
            go_wp2_with fail
            go_roundw
            case rel => exact ⟨j + 1, N2 + 4 + q.uids.length + tx + fb / 16 + ft / 16 + fh / 32, by go_num, by congr 1, by omega, hN3, h1F, Lib.hid (below_drewN hbA.out nq)⟩
            case measure => simp [intOf] <;> omega
        · have hj1 : (l.length : Int) ≤ (j : Int) := by omega
          have hj2 : ¬ ((j : Int) < (l.length : Int)) := by omega
          have hR : Hid ((!(lightB m (l.map (·.1)))) = decide ((5000 : Int) < (N2 : Int))) := Lib.hid (by
            have hje : j = (l.map (·.1)).length := by rw [List.length_map]; omega
            have h1 := hN2.out
            rw [hje, List.take_length] at h1
            rw [light_yes (by have := hlb.out; omega) e2 e3 (by rw [List.length_map]; exact e4) hall.out (fun q hq => by
              obtain ⟨k, hk, rfl⟩ := List.mem_iff_getElem.1 hq
              exact h1000.out k _ (by omega) (List.getElem?_eq_getElem hk)), ← decide_not, decide_eq_decide]
            have h2 := hNA.out
            have h3 := hlb.out
            omega)
          have hbF := Lib.hid hbW2
          clear hN2 h1000 hbW2 hNA hall hNb
          go_wp2_with fail
          go_ret
          exact ⟨ret_bool hR.out.symm, by first | exact hbF | (rw [← hMB]; exact hbF)⟩
end Go.Proofs.Ytcnebfmlelcliaa
namespace Go.Proofs.Ytcnebfmlelcliaa
set_option linter.unusedSimpArgs false
open Go.RowKit

/-- a yes or a no, whether P -/
def YesNo (P : Prop) (W : World) (e : Ending) (w' : World) : Prop := ∃ B, e = .returned (.bool B) ∧ Hid (B = true ↔ P) ∧ Hid (Below W.heap.size W w')
structure LetP (x : Lt) (b : Bx) : Prop where
  u1 : 0 < x.uid
  u2 : x.uid < b.next
  fl : rightB x.flags = true
  m1 : 0 < x.mod
  m2 : x.mod ≤ b.high
  hs : x.hash.size = 32
  sz : x.size ≤ 4096
structure BoxP (b : Bx) (next : Nat) : Prop where
  ok : boxOk b.name.data.toList = true
  nm : boxL b.name.data.toList = b.name.data.toList
  v1 : 1 ≤ b.validity
  v2 : b.validity < next
  n1 : 1 ≤ b.next
  n2 : b.next ≤ 4294967296
  h1 : 1 ≤ b.high
  h2 : b.high ≤ 9223372036854775807
  len : b.letters.length ≤ 32
  lets : ∀ x ∈ b.letters, LetP x b
  up : b.letters.Pairwise (fun x y => x.uid < y.uid)
structure HomeP (h : Hm) : Prop where
  n1 : 1 ≤ h.node
  n2 : h.node ≤ 5
  l : h.life ≠ 0
  t : h.try_ ≠ 0
structure SeatP (m : Ml) (x : St) : Prop where
  s1 : 1 ≤ x.session
  s2 : x.session < m.ns
  t1 : 1 ≤ x.try_
  home : ∃ h ∈ m.homes, h.node = x.node ∧ h.life = x.life ∧ x.try_ ≤ h.try_
structure SeatsP (m : Ml) : Prop where
  homes : ∀ h ∈ m.homes, HomeP h
  hup : m.homes.Pairwise (fun x y => x.node < y.node)
  seats : ∀ x ∈ m.seats, SeatP m x
  sup : m.seats.Pairwise (fun x y => x.session < y.session)
  twin : m.seats.Pairwise (fun x y => ¬ (x.node = y.node ∧ x.try_ = y.try_))
structure RightP (m : Ml) : Prop where
  lb : m.boxes.length ≤ 8
  nv : m.nv ≤ 4294967296
  ns1 : 1 ≤ m.ns
  ns2 : m.ns ≤ 4611686018427387904
  sw : m.sweeps ≤ 9223372036854775807
  ls : m.seats.length ≤ 16
  boxes : ∀ b ∈ m.boxes, BoxP b m.nv
  names : m.boxes.Pairwise (fun x y => bxltB x y = true)
  vals : m.boxes.Pairwise (fun x y => x.validity ≠ y.validity)
  inbox : ∃ b ∈ m.boxes, b.name.data.toList = inboxL
  seated : SeatsP m
theorem short_nodes : ∀ (l : List Hm) (k : Int), (∀ h ∈ l, k < h.node ∧ h.node ≤ 5) → l.Pairwise (fun x y => x.node < y.node) → (l.length : Int) ≤ max 0 (5 - k)
  | [], k, _, _ => by simp; omega
  | h :: r, k, h1, h2 => by
    have h2' := List.pairwise_cons.1 h2
    have hh := h1 h (by simp)
    have := short_nodes r h.node (fun x hx => ⟨h2'.1 x hx, (h1 x (by simp [hx])).2⟩) h2'.2
    simp only [List.length_cons]
    omega
theorem RightP.homes5 {m : Ml} (h : RightP m) : m.homes.length ≤ 5 := by
  have := short_nodes m.homes 0 (fun x hx => ⟨by have := (h.seated.homes x hx).n1; omega, (h.seated.homes x hx).n2⟩) h.seated.hup
  omega
theorem RightP.sized {m : Ml} (h : RightP m) : Sized1 m := ⟨by have := h.lb; omega, by have := h.homes5; omega, by have := h.ls; omega, fun b hb => by have := (h.boxes b hb).len; omega, fun b hb x hx => by have := right_16 ((h.boxes b hb).lets x hx).fl; omega⟩
/-- a list whose numbers rise so far -/
def UpTo (l : List Lt) (b : Bx) (j : Nat) (last : Nat) : Prop := (∀ x ∈ l.take j, LetP x b) ∧ (l.take j).Pairwise (fun x y => x.uid < y.uid) ∧ ∀ x ∈ l.take j, x.uid ≤ last
theorem UpTo.zero (l : List Lt) (b : Bx) : UpTo l b 0 0 := ⟨fun x hx => by simp at hx, by simp, fun x hx => by simp at hx⟩
theorem UpTo.step {l : List Lt} {b : Bx} {j last : Nat} (h : UpTo l b j last) (hj : j < l.length) (hp : LetP l[j] b) (hl : last < l[j].uid) : UpTo l b (j + 1) l[j].uid := by
  unfold UpTo
  rw [List.take_succ_eq_append_getElem hj]
  refine ⟨fun x hx => ?_, ?_, fun x hx => ?_⟩
  · rcases List.mem_append.1 hx with hx | hx
    · exact h.1 x hx
    · rw [List.mem_singleton.1 hx]; exact hp
  · refine List.pairwise_append.2 ⟨h.2.1, by simp, fun x hx y hy => ?_⟩
    rw [List.mem_singleton.1 hy]
    have := h.2.2 x hx
    omega
  · rcases List.mem_append.1 hx with hx | hx
    · have := h.2.2 x hx; omega
    · rw [List.mem_singleton.1 hx]; exact Nat.le_refl _
theorem BoxP.last {b : Bx} {next : Nat} (h : BoxP b next) {j last : Nat} (hj : j < b.letters.length) (hl : j = 0 ∧ last = 0 ∨ ∃ k, k < j ∧ b.letters[k]?.map Lt.uid = some last) : last < b.letters[j].uid := by
  rcases hl with ⟨rfl, rfl⟩ | ⟨k, hk, e⟩
  · exact (h.lets _ (List.getElem_mem hj)).u1
  · rw [List.getElem?_eq_getElem (by omega)] at e
    have := List.pairwise_iff_getElem.1 h.up k j (by omega) hj hk
    have := Option.some.inj e
    omega
end Go.Proofs.Ytcnebfmlelcliaa
namespace Go.Proofs.Ytcnebfmlelcliaa
set_option linter.unusedSimpArgs false
open Go.RowKit

theorem pw_set {α : Type} {R : α → α → Prop} {l : List α} (h : l.Pairwise R) {i : Nat} (hi : i < l.length) (b : α) (h1 : ∀ x, R x l[i] → R x b) (h2 : ∀ x, R l[i] x → R b x) : (l.set i b).Pairwise R := by
  rw [List.pairwise_iff_getElem] at h ⊢
  intro j k hj hk hjk
  rw [List.length_set] at hj hk
  rw [List.getElem_set, List.getElem_set]
  by_cases e : i = j
  · subst e
    rw [if_pos rfl, if_neg (by omega)]
    exact h2 _ (h _ _ hj hk hjk)
  · rw [if_neg e]
    by_cases e2 : i = k
    · subst e2
      rw [if_pos rfl]
      exact h1 _ (h _ _ hj hk hjk)
    · rw [if_neg e2]
      exact h _ _ hj hk hjk
theorem mem_set_out {α : Type} {l : List α} {i : Nat} {b x : α} (hx : x ∈ l.set i b) : x ∈ l ∨ x = b := List.mem_or_eq_of_mem_set hx
theorem mem_set_in {α : Type} {l : List α} {i : Nat} (b : α) {x : α} (hi : i < l.length) (hx : x ∈ l) : x = l[i] ∨ x ∈ l.set i b := by
  obtain ⟨j, hj, rfl⟩ := List.mem_iff_getElem.1 hx
  by_cases e : i = j
  · subst e; exact .inl rfl
  · exact .inr (List.mem_iff_getElem.2 ⟨j, by rw [List.length_set]; exact hj, by rw [List.getElem_set, if_neg e]⟩)
theorem self_set {α : Type} {l : List α} {i : Nat} (b : α) (hi : i < l.length) : b ∈ l.set i b := List.mem_iff_getElem.2 ⟨i, by rw [List.length_set]; exact hi, by rw [List.getElem_set, if_pos rfl]⟩
theorem name_eq {x : Bx} {n : ByteArray} (h : (x.name.toList == n.toList) = true) : x.name.data.toList = n.data.toList := by
  rw [eq_str] at h
  exact eq_of_beq h
theorem SeatsP.box {m m' : Ml} (h : SeatsP m) (h1 : m'.homes = m.homes) (h2 : m'.seats = m.seats) (h3 : m'.ns = m.ns) : SeatsP m' := by
  refine ⟨?_, ?_, ?_, ?_, ?_⟩
  · rw [h1]; exact h.homes
  · rw [h1]; exact h.hup
  · rw [h2]; exact fun x hx => ⟨(h.seats x hx).s1, by rw [h3]; exact (h.seats x hx).s2, (h.seats x hx).t1, by rw [h1]; exact (h.seats x hx).home⟩
  · rw [h2]; exact h.sup
  · rw [h2]; exact h.twin
theorem RightP.setM {m : Ml} (h : RightP m) {i : Nat} (hi : i < m.boxes.length) (b : Bx) (hn : b.name = m.boxes[i].name) (hv : b.validity = m.boxes[i].validity) (hb : BoxP b m.nv) : RightP (setM m i b) where
  lb := by show (m.boxes.set i b).length ≤ 8; rw [List.length_set]; exact h.lb
  nv := h.nv
  ns1 := h.ns1
  ns2 := h.ns2
  sw := h.sw
  ls := h.ls
  boxes := fun x hx => by
    rcases mem_set_out hx with hx | rfl
    · exact h.boxes x hx
    · exact hb
  names := pw_set h.names hi b (fun x hx => by unfold bxltB at hx ⊢; rw [hn]; exact hx) (fun x hx => by unfold bxltB at hx ⊢; rw [hn]; exact hx)
  vals := pw_set h.vals hi b (fun x hx => by rw [hv]; exact hx) (fun x hx => by rw [hv]; exact hx)
  inbox := by
    obtain ⟨x, hx, e⟩ := h.inbox
    rcases mem_set_in b hi hx with rfl | hx
    · exact ⟨b, self_set b hi, by rw [hn]; exact e⟩
    · exact ⟨x, hx, e⟩
  seated := h.seated.box rfl rfl rfl
theorem LetP.more {x : Lt} {b b' : Bx} (h : LetP x b) (h1 : b.next ≤ b'.next) (h2 : b.high ≤ b'.high) : LetP x b' := ⟨h.u1, by have := h.u2; omega, h.fl, h.m1, by have := h.m2; omega, h.hs, h.sz⟩
end Go.Proofs.Ytcnebfmlelcliaa
