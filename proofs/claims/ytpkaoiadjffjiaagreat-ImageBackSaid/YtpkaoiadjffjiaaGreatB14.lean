/- A reader in memory; the number that stands at its place (scan): walked. The reader's methods: any, room, bound, Num, Count, Text, End: walked. mail.Same, asked about any two states: the exact answer. (written by tools/gen_ImM.py) -/
import Derived.Test.YtpkaoiadjffjiaaGreatB13
import Derived.Test.YtpkaoiadjffjiaaGreatB06
import Derived.BigQuiet
import Derived.Deep.QuietTactic
import Derived.Lib.MinMax
import Derived.Test.YtpkaoiadjffjiaaGreatB11
namespace Go.Proofs.YtpkaoiadjffjiaaGreat
set_option linter.unusedSimpArgs false
open Go.RowKit
attribute [local go_sem ↓] Go.wp_at_zero Go.wp_at_succ

/-- all blocks but R are as they were -/
structure Kp (R : Nat) (w w' : World) : Prop where
  os : w'.os = w.os
  tape : w'.tape = w.tape
  output : w'.output = w.output
  size : w.heap.size ≤ w'.heap.size
  block : ∀ k, k < w.heap.size → k ≠ R → w'.heap[k]? = w.heap[k]?
theorem Kp.refl (R : Nat) (w : World) : Kp R w w := ⟨rfl, rfl, rfl, Nat.le_refl _, fun _ _ _ => rfl⟩
theorem Kp.trans {R : Nat} {a b c : World} (h : Kp R a b) (k : Kp R b c) : Kp R a c :=
  ⟨k.os.trans h.os, k.tape.trans h.tape, k.output.trans h.output, Nat.le_trans h.size k.size, fun j hj hR => (k.block j (Nat.lt_of_lt_of_le hj h.size) hR).trans (h.block j hj hR)⟩
theorem Kp.of {R : Nat} {w w' : World} (h : Below w.heap.size w w') : Kp R w w' := ⟨h.os, h.tape, h.output, h.size, fun k hk _ => h.block k hk⟩
theorem Kp.on {R : Nat} {a w w' : World} (k : Kp R a w) (h : Below w.heap.size w w') : Kp R a w' := k.trans (Kp.of h)
theorem Kp.set {R : Nat} {a w : World} (h : Kp R a w) (j : Nat) (u : Value) : Kp R a (w.setCell ⟨R, j, none⟩ u) :=
  ⟨h.os, h.tape, h.output, by simpa using h.size, fun k hk hR => (heap_setCell_other w ⟨R, j, none⟩ k _ hR).trans (h.block k hk hR)⟩
theorem Kp.bel {R B : Nat} {a w w' : World} (k : Kp R w w') (h : Below B a w) (hB : B ≤ R) (hs : B ≤ w.heap.size) : Below B a w' :=
  ⟨k.os.trans h.os, k.tape.trans h.tape, k.output.trans h.output, Nat.le_trans h.size k.size, fun j hj => (k.block j (Nat.lt_of_lt_of_le hj hs) (by omega)).trans (h.block j hj)⟩
theorem Kp.heap {R : Nat} {w w' : World} (k : Kp R w w') {B : Nat} {o : Obj} (h : w.heap[B]? = some o) (hB : B ≠ R) : w'.heap[B]? = some o := (k.block B (Array.getElem?_eq_some_iff.1 h).1 hB).trans h
/-- a reader's three fields, and how it stands by them -/
def rdC (s : ByteArray) (at_ e : Nat) : Array Value := #[.string s, .int .i64 at_, .int .i64 e]
def RdrSt (s : ByteArray) (at_ e : Nat) : PS → Prop
  | some l => e = 0 ∧ at_ ≤ s.size ∧ s.data.toList.drop at_ = l
  | none => e ≠ 0
def RdrAt (w : World) (R : Nat) (s : ByteArray) (o : PS) : Prop := ∃ at_ e : Nat, w.heap[R]? = some (.cells (rdC s at_ e) 89 (0, 0)) ∧ RdrSt s at_ e o
theorem RdrAt.on {w w' : World} {R : Nat} {s : ByteArray} {o : PS} (h : RdrAt w R s o) (hb : Below w.heap.size w w') : RdrAt w' R s o := by
  obtain ⟨a, e, h1, h2⟩ := h
  exact ⟨a, e, (hb.block R (Array.getElem?_eq_some_iff.1 h1).1).trans h1, h2⟩
theorem RdrAt.lt {w : World} {R : Nat} {s : ByteArray} {o : PS} (h : RdrAt w R s o) : R < w.heap.size := by
  obtain ⟨a, e, h1, h2⟩ := h
  exact (Array.getElem?_eq_some_iff.1 h1).1
def ScanIs (l : List UInt8) (n sz c : Nat) : Prop := c = 0 ∧ 1 ≤ sz ∧ sz ≤ l.length ∧ scanL 0 0 l = some (n, l.drop sz) ∨ c ≠ 0 ∧ scanL 0 0 l = none
def ScanRet (l : List UInt8) (w : World) (e : Ending) (w' : World) : Prop := ∃ n sz c : Nat, e = .returned (.tuple #[.int .u64 n, .int .i64 sz, .int .i64 c]) ∧ Hid (ScanIs l n sz c) ∧ Hid (Below w.heap.size w w')
theorem and127 (c : UInt8) : bits .and .u8 (c.toNat : Int) 127 = ((c.toNat % 128 : Nat) : Int) := by
  have hc := c.toNat_lt
  rw [show (127 : Int) = ((127 : Nat) : Int) from rfl, u8_and_nat _ _ (by omega) (by omega)]
  have : c.toNat &&& 127 = c.toNat % 128 := Nat.and_two_pow_sub_one_eq_mod c.toNat 7
  rw [this]
theorem pow7 (i : Nat) : (2 : Nat) ^ (7 * i) = 128 ^ i := by rw [Nat.pow_mul]
theorem pow128_le {i : Nat} (h : i ≤ 9) : (128 : Nat) ^ i ≤ 9223372036854775808 := by
  have := Nat.pow_le_pow_right (n := 128) (by decide) h
  have e9 : (128 : Nat) ^ 9 = 9223372036854775808 := by decide
  omega
theorem pow128_le8 {i : Nat} (h : i < 9) : (128 : Nat) ^ i ≤ 72057594037927936 := by
  have := Nat.pow_le_pow_right (n := 128) (by decide) (show i ≤ 8 by omega)
  have e8 : (128 : Nat) ^ 8 = 72057594037927936 := by decide
  omega
theorem shl7_lt {m i : Nat} (hi : i ≤ 9) (hm : m ≤ 127) (h9 : i = 9 → m ≤ 1) : m * 128 ^ i ≤ 9223372036854775808 := by
  by_cases h : i = 9
  · have h1 := h9 h
    have h2 := Nat.mul_le_mul h1 (pow128_le hi)
    omega
  · have h2 := Nat.mul_le_mul hm (pow128_le8 (show i < 9 by omega))
    omega
theorem or_add {a m i : Nat} (ha : a < 128 ^ i) : a ||| m * 128 ^ i = a + m * 128 ^ i := by
  have := Nat.two_pow_add_eq_or_of_lt (i := 7 * i) (b := a) (by rw [pow7]; exact ha) m
  rw [pow7] at this
  rw [Nat.or_comm, Nat.mul_comm, ← this, Nat.add_comm]
set_option maxRecDepth 100000 in
set_option maxHeartbeats 8000000 in
theorem scan_any (s : ByteArray) (hs : s.size ≤ 1000000000000) (R at_ e : Nat) (hat : at_ ≤ s.size) (w : World) (hR : w.heap[R]? = some (.cells (rdC s at_ e) 89 (0, 0))) :
    Calls Tryz.prog 64 #[.pointer (some ⟨R, 0, none⟩)] w (ScanRet (s.data.toList.drop at_) w) := by
  have hcs : Hid (∀ w', Below w.heap.size w w' → w'.cell? ⟨R, 0, none⟩ = some (.string s) ∧ w'.cell? ⟨R, 1, none⟩ = some (.int .i64 at_)) := Lib.hid (fun w' hb => by
    have h := (hb.block R (Array.getElem?_eq_some_iff.1 hR).1).trans hR
    exact ⟨box_cell h 0, box_cell h 1⟩)
  have hlen : Hid ((s.data.toList.drop at_).length = s.size - at_) := Lib.hid (by rw [List.length_drop, ← size_len])
  clear hR
  go_enter Tryz.func64, Tryz.ntmps64
  go_wp2_with fail
  go_loopw [5, 6, 7] (fun v5 v6 _ wr => ∃ i a : Nat, v6 = .int .i64 i ∧ v5 = .int .u64 a ∧ i ≤ 9 ∧ Hid (a < 128 ^ i) ∧ at_ + i ≤ s.size ∧ Hid (scanL 0 0 (s.data.toList.drop at_) = scanL i a (s.data.toList.drop (at_ + i))) ∧ Hid (Below w.heap.size w wr)) (fun _ v6 _ _ => s.size - (intOf v6).toNat)
  case atStart => exact ⟨0, 0, rfl, rfl, by omega, Lib.hid (by decide), hat, Lib.hid rfl, Lib.hid (Below.refl _ _)⟩
  case round =>
    obtain ⟨i, a, rfl, rfl, hi, ha, hp, hl, hb⟩ := hrel
    obtain ⟨x0, x1⟩ := hcs.out _ hb.out
    have hw0 : IntKind.i64.wrap ((at_ : Int) + (i : Int)) = ((at_ + i : Nat) : Int) := by rw [IntKind.wrap_i64]; omega
    obtain ⟨p, hpe⟩ : ∃ p, at_ + i = p := ⟨_, rfl⟩
    rw [hpe] at hw0 hl
    by_cases hlt : p < s.size
    · have hl1 : ¬ ((s.size : Int) ≤ (p : Int)) := by omega
      rw [drop_cons s p hlt] at hl
      generalize hc : s[p] = c at hl
      have hcl := c.toNat_lt
      have hcb : (c.toNat : Int) < 256 := by omega
      have hcn : (0 : Int) ≤ (c.toNat : Int) := by omega
      have hm := and127 c
      have hmw : IntKind.u64.wrap ((c.toNat % 128 : Nat) : Int) = ((c.toNat % 128 : Nat) : Int) := by rw [IntKind.wrap_u64]; omega
      have h7 : IntKind.i64.wrap (7 * (i : Int)) = 7 * (i : Int) := by rw [IntKind.wrap_i64]; omega
      have h70 : (0 : Int) ≤ 7 * (i : Int) := by omega
      have h71 : 7 * (i : Int) ≤ 64 := by omega
      replace hpe := Lib.hid hpe
      by_cases h9 : i = 9 ∧ 1 < c.toNat
      · have hno : Hid (scanL 0 0 (s.data.toList.drop at_) = none) := Lib.hid (by rw [hl.out, scanL, if_pos h9])
        have h90 : ((i : Int) == 9) = true := by simp; omega
        have h91 : (1 : Int) < (c.toNat : Int) := by omega
        clear hl hm hmw h7 h70 h71 ha h9
        go_wp2_with fail
        go_quiet (fail)
        have hbq := Lib.hid (below_drewN hb.out nq)
        replace x0 := hcs.out _ hbq.out
        obtain ⟨x0, x1⟩ := x0
        clear hb
        generalize wr.drewN nq = wq at hbq x0 x1 ⊢
        go_wp2_with fail
        go_quiet (fail)
        have hbq2 := Lib.hid (below_drewN hbq.out nq)
        go_wp2_with fail
        go_ret3
        exact ⟨0, 0, 4, rfl, Lib.hid (.inr ⟨by decide, hno.out⟩), hbq2⟩
      · have h90 : (((i : Int) == 9) = false) ∨ (((i : Int) == 9) = true ∧ ¬ (1 : Int) < (c.toNat : Int)) := by
          by_cases e : i = 9
          · exact .inr ⟨by simp; omega, by omega⟩
          · exact .inl (by simp; omega)
        have h91 : i = 9 → c.toNat % 128 ≤ 1 := fun e => by omega
        have hsc : Hid (c.toNat < 128 → (c.toNat = 0 ∧ 0 < i → scanL 0 0 (s.data.toList.drop at_) = none) ∧ (¬ (c.toNat = 0 ∧ 0 < i) → scanL 0 0 (s.data.toList.drop at_) = some (a + c.toNat % 128 * 128 ^ i, s.data.toList.drop (p + 1)))) := Lib.hid (fun h => ⟨fun h2 => by rw [hl.out, scanL, if_neg h9, if_pos h, if_pos h2], fun h2 => by rw [hl.out, scanL, if_neg h9, if_pos h, if_neg h2]⟩)
        have hsr : Hid (¬ c.toNat < 128 → i < 9 ∧ scanL 0 0 (s.data.toList.drop at_) = scanL (i + 1) (a + c.toNat % 128 * 128 ^ i) (s.data.toList.drop (p + 1))) := Lib.hid (fun h => ⟨by omega, by rw [hl.out, scanL, if_neg h9, if_neg h]⟩)
        have hmd : c.toNat % 128 ≤ 127 := by omega
        generalize c.toNat % 128 = m at hm hmw h91 hsc hsr hmd
        have hd := shl7_lt hi hmd h91
        have hor := or_add (m := m) ha.out
        have hap := ha.out
        have hpw := pow128_le hi
        have hnx : a + m * 128 ^ i < 128 ^ (i + 1) := by
          have := Nat.mul_le_mul_right (128 ^ i) hmd
          rw [Nat.pow_succ]; omega
        have hS : IntKind.u64.wrap ((m : Int) * 2 ^ (7 * (i : Int)).toNat) = ((m * 128 ^ i : Nat) : Int) := by
          rw [show (7 * (i : Int)).toNat = 7 * i by omega, IntKind.wrap_u64]
          have e : ((m : Int) * 2 ^ (7 * i)) = ((m * 128 ^ i : Nat) : Int) := by rw [← pow7]; push_cast; rfl
          rw [e]
          omega
        generalize m * 128 ^ i = d at hd hor hS hsc hsr hnx
        have hO : bits .or .u64 (a : Int) (d : Int) = ((a + d : Nat) : Int) := by rw [bits_or_u64_nat _ _ (by omega) (by omega), hor]
        generalize hA : a + d = a2 at hO hsc hsr hnx
        replace hnx := Lib.hid hnx
        have hw1 : IntKind.i64.wrap ((i : Int) + 1) = (i : Int) + 1 := by rw [IntKind.wrap_i64]; omega
        clear hl ha h9 hd hor hap hpw hA h91 hmd
        by_cases hc1 : c.toNat < 128
        · have hc1i : (c.toNat : Int) < 128 := by omega
          have hsc2 := hsc.out hc1
          by_cases hc0 : c.toNat = 0 ∧ 0 < i
          · have hno := Lib.hid (hsc2.1 hc0)
            have h00 : ((c.toNat : Int) == 0) = true := by simp; omega
            have h01 : (0 : Int) < (i : Int) := by omega
            clear hsc2 hsc hsr hc0 hc1
            rcases h90 with h90 | ⟨h90, h92⟩
            all_goals
              go_wp2_with fail
              go_quiet (fail)
              have hbq := Lib.hid (below_drewN hb.out nq)
              replace x0 := hcs.out _ hbq.out
              obtain ⟨x0, x1⟩ := x0
              clear hb
              generalize wr.drewN nq = wq at hbq x0 x1 ⊢
              go_wp2_with fail
              go_quiet (fail)
              have hbq2 := Lib.hid (below_drewN hbq.out nq)
              go_wp2_with fail
              go_ret3
              exact ⟨0, 0, 4, rfl, Lib.hid (.inr ⟨by decide, hno.out⟩), hbq2⟩
          · have hyes := Lib.hid (hsc2.2 hc0)
            have hle : Hid (i + 1 ≤ (s.data.toList.drop at_).length ∧ s.data.toList.drop (p + 1) = (s.data.toList.drop at_).drop (i + 1)) := Lib.hid ⟨by rw [hlen.out]; have := hpe.out; omega, by rw [List.drop_drop]; congr 1; have := hpe.out; omega⟩
            have h00 : ((c.toNat : Int) == 0) = false ∨ (((c.toNat : Int) == 0) = true ∧ ¬ (0 : Int) < (i : Int)) := by
              by_cases e : c.toNat = 0
              · exact .inr ⟨by simp; omega, by omega⟩
              · exact .inl (by simp; omega)
            clear hsc2 hsc hsr hc0 hc1
            rcases h90 with h90 | ⟨h90, h92⟩ <;> rcases h00 with h00 | ⟨h00, h02⟩
            all_goals
              go_wp2_with fail
              go_quiet (fail)
              have hbq := Lib.hid (below_drewN hb.out nq)
              replace x0 := hcs.out _ hbq.out
              obtain ⟨x0, x1⟩ := x0
              clear hb
              generalize wr.drewN nq = wq at hbq x0 x1 ⊢
              go_wp2_with fail
              go_quiet (fail)
              have hbq2 := Lib.hid (below_drewN hbq.out nq)
              go_wp2_with fail
              go_ret3
              exact ⟨a2, i + 1, 0, by first | rfl | (push_cast; rfl) | simp, Lib.hid (.inl ⟨rfl, by omega, hle.out.1, by rw [← hle.out.2]; exact hyes.out⟩), hbq2⟩
        · have hc1i : ¬ (c.toNat : Int) < 128 := by omega
          obtain ⟨hi9, hl2⟩ := hsr.out hc1
          replace hl2 := Lib.hid hl2
          have h93 : ((i : Int) == 9) = false := by simp; omega
          clear hsc hsr hc1 h90
          go_wp2_with fail
          go_quiet (fail)
          have hbq := Lib.hid (below_drewN hb.out nq)
          replace x0 := hcs.out _ hbq.out
          obtain ⟨x0, x1⟩ := x0
          clear hb
          generalize wr.drewN nq = wq at hbq x0 x1 ⊢
          go_wp2_with fail
          go_quiet (fail)
          have hbq2 := Lib.hid (below_drewN hbq.out nq)
          go_wp2_with fail
          go_roundw
          case rel => exact ⟨i + 1, a2, by go_num, by first | rfl | simp, by omega, hnx, by have := hpe.out; omega, Lib.hid (by have h := hl2.out; rw [← hpe.out] at h; exact h), hbq2⟩
          case measure =>
            have h1 := hpe.out
            simp [intOf] <;> omega
    · have hl1 : (s.size : Int) ≤ (p : Int) := by omega
      have hno : Hid (scanL 0 0 (s.data.toList.drop at_) = none) := Lib.hid (by rw [hl.out, drop_all s (by omega)]; rfl)
      replace hpe := Lib.hid hpe
      clear hl
      go_wp2_with fail
      go_quiet (fail)
      have hbq := Lib.hid (below_drewN hb.out nq)
      go_wp2_with fail
      go_ret3
      exact ⟨0, 0, 3, rfl, Lib.hid (.inr ⟨by decide, hno.out⟩), hbq⟩
end Go.Proofs.YtpkaoiadjffjiaaGreat
namespace Go.Proofs.YtpkaoiadjffjiaaGreat
set_option linter.unusedSimpArgs false
open Go.RowKit
attribute [local go_sem ↓] Go.wp_at_zero Go.wp_at_succ

theorem rNum_none (most : Nat) : rNum most none = (0, none) := rfl
theorem rNum_fail {most : Nat} {l : List UInt8} (h : scanL 0 0 l = none) : rNum most (some l) = (0, none) := by unfold rNum; rw [Option.bind_some, h]
theorem rNum_big {most n : Nat} {l r : List UInt8} (h : scanL 0 0 l = some (n, r)) (hn : ¬ n ≤ most) : rNum most (some l) = (0, none) := by unfold rNum; rw [Option.bind_some, h]; exact if_neg hn
theorem rNum_ok {most n : Nat} {l r : List UInt8} (h : scanL 0 0 l = some (n, r)) (hn : n ≤ most) : rNum most (some l) = (n, some r) := by unfold rNum; rw [Option.bind_some, h]; exact if_pos hn
theorem rText_none (most : Nat) : rText most none = ([], none) := rfl
theorem rText_fail {most : Nat} {l : List UInt8} (h : scanL 0 0 l = none) : rText most (some l) = ([], none) := by unfold rText; rw [Option.bind_some, h]
theorem rText_big {most n : Nat} {l r : List UInt8} (h : scanL 0 0 l = some (n, r)) (hn : ¬ (n ≤ most ∧ n ≤ r.length)) : rText most (some l) = ([], none) := by unfold rText; rw [Option.bind_some, h]; exact if_neg hn
theorem rText_ok {most n : Nat} {l r : List UInt8} (h : scanL 0 0 l = some (n, r)) (hn : n ≤ most ∧ n ≤ r.length) : rText most (some l) = (r.take n, some (r.drop n)) := by unfold rText; rw [Option.bind_some, h]; exact if_pos hn
theorem scan_lt {l : List UInt8} {n : Nat} {r : List UInt8} (h : scanL 0 0 l = some (n, r)) : n < 18446744073709551616 := (num_scan h).2
/-- what a call of the reader does: blocks but R stay, and the reader stands so -/
def RdOut (R : Nat) (s : ByteArray) (o : PS) (w w' : World) : Prop := Hid (Kp R w w') ∧ Hid (RdrAt w' R s o)
theorem rd_set_e {w : World} {R at_ e : Nat} {s : ByteArray} (h : w.heap[R]? = some (.cells (rdC s at_ e) 89 (0, 0))) (c : Nat) : (w.setCell ⟨R, 2, none⟩ (.int .i64 c)).heap[R]? = some (.cells (rdC s at_ c) 89 (0, 0)) :=
  cells_set (C := [.string s, .int .i64 at_, .int .i64 e]) h 2 _
theorem rd_set_at {w : World} {R at_ e : Nat} {s : ByteArray} (h : w.heap[R]? = some (.cells (rdC s at_ e) 89 (0, 0))) (c : Nat) : (w.setCell ⟨R, 1, none⟩ (.int .i64 c)).heap[R]? = some (.cells (rdC s c e) 89 (0, 0)) :=
  cells_set (C := [.string s, .int .i64 at_, .int .i64 e]) h 1 _
theorem bel_heapR {w w' : World} (hb : Below w.heap.size w w') {B : Nat} {o : Obj} (h : w.heap[B]? = some o) : w'.heap[B]? = some o := (hb.block B (Array.getElem?_eq_some_iff.1 h).1).trans h
theorem anyR_any (r n z : Value) (w : World) : Calls Tryz.prog 53 #[r, n, z] w fun e w' => e = .returned (.int .i64 0) ∧ w' = w := by
  go_enter Tryz.func53, Tryz.ntmps53
  go_wp2_with fail
  go_ret
  exact ⟨rfl, rfl⟩
theorem room_any (s : ByteArray) (hs : s.size ≤ 1000000000000) (R at_ e n sz : Nat) (hat : at_ + sz ≤ s.size) (w : World) (hR : w.heap[R]? = some (.cells (rdC s at_ e) 89 (0, 0))) :
    Calls Tryz.prog 54 #[.pointer (some ⟨R, 0, none⟩), .int .u64 n, .int .i64 sz] w fun e w' => e = .returned (.int .i64 ((if n ≤ s.size - at_ - sz then 0 else 3 : Nat) : Int)) ∧ Hid (Below w.heap.size w w') := by
  have y0 : w.cell? ⟨R, 0, none⟩ = some (.string s) := box_cell hR 0
  have y1 : w.cell? ⟨R, 1, none⟩ = some (.int .i64 at_) := box_cell hR 1
  have hw1 : IntKind.i64.wrap ((s.size : Int) - (at_ : Int)) = (s.size : Int) - (at_ : Int) := by rw [IntKind.wrap_i64]; omega
  have hw2 : IntKind.i64.wrap ((s.size : Int) - (at_ : Int) - (sz : Int)) = ((s.size - at_ - sz : Nat) : Int) := by rw [IntKind.wrap_i64]; omega
  have hw3 : IntKind.u64.wrap ((s.size - at_ - sz : Nat) : Int) = ((s.size - at_ - sz : Nat) : Int) := by rw [IntKind.wrap_u64]; omega
  generalize s.size - at_ - sz = d at hw2 hw3 ⊢
  clear hat
  by_cases hd : n ≤ d
  · have hd1 : ¬ (d : Int) < (n : Int) := by omega
    rw [if_pos hd]
    clear hd
    go_enter Tryz.func54, Tryz.ntmps54
    go_wp2_with fail
    go_quiet (fail)
    have hbq := Lib.hid (below_drewN (Below.refl w.heap.size w) nq)
    go_wp2_with fail
    go_ret
    exact ⟨rfl, hbq⟩
  · have hd1 : (d : Int) < (n : Int) := by omega
    rw [if_neg hd]
    clear hd
    go_enter Tryz.func54, Tryz.ntmps54
    go_wp2_with fail
    go_quiet (fail)
    have hbq := Lib.hid (below_drewN (Below.refl w.heap.size w) nq)
    go_wp2_with fail
    go_ret
    exact ⟨rfl, hbq⟩
set_option maxRecDepth 100000 in
set_option maxHeartbeats 8000000 in
theorem boundAny_any (s : ByteArray) (hs : s.size ≤ 1000000000000) (R : Nat) (o : PS) (most : Nat) (w : World) (hr : RdrAt w R s o) :
    Calls Tryz.prog 52 #[.pointer (some ⟨R, 0, none⟩), .int .u64 most, .func (.func 53) #[.pointer (some ⟨R, 0, none⟩)] #[]] w fun e w' => ∃ sz : Nat, e = .returned (.tuple #[.int .u64 (rNum most o).1, .int .i64 sz]) ∧ RdOut R s (rNum most o).2 w w' := by
  obtain ⟨at_, e, hR, hst⟩ := hr
  have y2 : w.cell? ⟨R, 2, none⟩ = some (.int .i64 e) := box_cell hR 2
  cases o with
  | none =>
    have he : ((e : Int) != 0) = true := by have h : e ≠ 0 := hst; simp; omega
    have hat2 : Hid (RdrAt w R s none) := Lib.hid ⟨at_, e, hR, hst⟩
    have hno := Lib.hid (rNum_none most)
    clear hst hR
    go_enter Tryz.func52, Tryz.ntmps52
    go_wp2_with fail
    go_ret2
    rw [hno.out]
    exact ⟨0, rfl, Lib.hid (Kp.refl R w), hat2⟩
  | some l =>
    obtain ⟨he, hat, hl⟩ := hst
    subst he
    have hsc := scan_any s hs R at_ 0 hat w hR
    rw [hl] at hsc
    have hll : Hid (l.length = s.size - at_) := Lib.hid (by rw [← hl, List.length_drop, ← size_len])
    replace hl := Lib.hid hl
    replace hsc := Lib.hid hsc
    go_enter Tryz.func52, Tryz.ntmps52
    go_wp2_with fail
    refine hsc.out.mono ?_
    rintro e w1 ⟨n, sz, c, rfl, hsi, hb1⟩
    dsimp only
    have h1 := bel_heapR hb1.out hR
    have x2 : w1.cell? ⟨R, 2, none⟩ = some (.int .i64 ((0 : Nat) : Int)) := box_cell h1 2
    have x1 : w1.cell? ⟨R, 1, none⟩ = some (.int .i64 at_) := box_cell h1 1
    have f2 := box_free h1 2
    have f1 := box_free h1 1
    have hke := Lib.hid (fun c : Nat => ((Kp.of hb1.out).set 2 (.int .i64 (c : Nat)) : Kp R w (w1.setCell ⟨R, 2, none⟩ (.int .i64 (c : Nat)))))
    have hre := Lib.hid (fun (c : Nat) (h : c ≠ 0) => (⟨at_, c, rd_set_e h1 c, h⟩ : RdrAt (w1.setCell ⟨R, 2, none⟩ (.int .i64 (c : Nat))) R s none))
    clear hsc y2
    rcases hsi.out with ⟨rfl, hz1, hz2, hsn⟩ | ⟨hc, hsn⟩
    · have hn := scan_lt hsn
      by_cases hnm : n ≤ most
      · have hnm1 : ¬ (most : Int) < (n : Int) := by omega
        have hyes := rNum_ok hsn hnm
        have hw1 : IntKind.i64.wrap ((at_ : Int) + (sz : Int)) = ((at_ + sz : Nat) : Int) := by rw [IntKind.wrap_i64]; have := hll.out; omega
        have hka := Lib.hid ((Kp.of hb1.out).set 1 (.int .i64 ((at_ + sz : Nat) : Int)) : Kp R w (w1.setCell ⟨R, 1, none⟩ (.int .i64 ((at_ + sz : Nat) : Int))))
        have hra : Hid (RdrAt (w1.setCell ⟨R, 1, none⟩ (.int .i64 ((at_ + sz : Nat) : Int))) R s (some (l.drop sz))) := Lib.hid ⟨at_ + sz, 0, rd_set_at h1 (at_ + sz), rfl, by have := hll.out; omega, by rw [← hl.out, List.drop_drop]⟩
        have hcall := Lib.hid (anyR_any (.pointer (some ⟨R, 0, none⟩)) (.int .u64 n) (.int .i64 sz) w1)
        generalize at_ + sz = a2 at hw1 hka hra
        replace hyes := Lib.hid hyes
        clear hz1 hz2 hsn hnm hn hsi x2 f2 h1 hke hre hll hl hat
        go_wp2_with fail
        refine hcall.out.mono ?_
        rintro e w2 ⟨rfl, hw⟩
        obtain rfl : w1 = w2 := hw.symm
        clear hcall
        go_wp2_with fail
        go_ret2
        rw [hyes.out]
        exact ⟨sz, rfl, hka, hra⟩
      · have hnm1 : (most : Int) < (n : Int) := by omega
        have hno := Lib.hid (rNum_big (most := most) hsn hnm)
        have hk2 := Lib.hid (hke.out 2)
        have hr2 := Lib.hid (hre.out 2 (by decide))
        clear hz1 hz2 hsn hnm hn hsi x1 f1 h1 hke hre
        go_wp2_with fail
        go_ret2
        rw [hno.out]
        exact ⟨0, rfl, hk2, hr2⟩
    · have hno := Lib.hid (rNum_fail (most := most) hsn)
      have hc1 : ((c : Int) == 0) = false := by simp; omega
      have hc2 : ((c : Int) != 0) = true := by simp; omega
      have hk2 := Lib.hid (hke.out c)
      have hr2 := Lib.hid (hre.out c hc)
      clear hsn hsi x1 f1 h1 hke hre hc
      go_wp2_with fail
      go_ret2
      rw [hno.out]
      exact ⟨0, rfl, hk2, hr2⟩
set_option maxRecDepth 100000 in
set_option maxHeartbeats 8000000 in
theorem boundRoom_any (s : ByteArray) (hs : s.size ≤ 1000000000000) (R : Nat) (o : PS) (most : Nat) (w : World) (hr : RdrAt w R s o) :
    Calls Tryz.prog 52 #[.pointer (some ⟨R, 0, none⟩), .int .u64 most, .func (.func 54) #[.pointer (some ⟨R, 0, none⟩)] #[]] w fun e w' => ∃ n sz : Nat, e = .returned (.tuple #[.int .u64 n, .int .i64 sz]) ∧ Hid (Kp R w w') ∧ (sz = 0 ∧ rText most o = ([], none) ∧ Hid (RdrAt w' R s none) ∨ 1 ≤ sz ∧ ∃ a2 : Nat, a2 + n ≤ s.size ∧ rText most o = ((s.data.toList.drop a2).take n, some (s.data.toList.drop (a2 + n))) ∧ Hid (w'.heap[R]? = some (.cells (rdC s a2 0) 89 (0, 0)))) := by
  obtain ⟨at_, e, hR, hst⟩ := hr
  have y2 : w.cell? ⟨R, 2, none⟩ = some (.int .i64 e) := box_cell hR 2
  cases o with
  | none =>
    have he : ((e : Int) != 0) = true := by have h : e ≠ 0 := hst; simp; omega
    have hat2 : Hid (RdrAt w R s none) := Lib.hid ⟨at_, e, hR, hst⟩
    have hno := Lib.hid (rText_none most)
    clear hst hR
    go_enter Tryz.func52, Tryz.ntmps52
    go_wp2_with fail
    go_ret2
    exact ⟨0, 0, rfl, Lib.hid (Kp.refl R w), .inl ⟨rfl, hno.out, hat2⟩⟩
  | some l =>
    obtain ⟨he, hat, hl⟩ := hst
    subst he
    have hsc := scan_any s hs R at_ 0 hat w hR
    rw [hl] at hsc
    have hll : Hid (l.length = s.size - at_) := Lib.hid (by rw [← hl, List.length_drop, ← size_len])
    replace hl := Lib.hid hl
    replace hsc := Lib.hid hsc
    go_enter Tryz.func52, Tryz.ntmps52
    go_wp2_with fail
    refine hsc.out.mono ?_
    rintro e w1 ⟨n, sz, c, rfl, hsi, hb1⟩
    dsimp only
    have h1 := bel_heapR hb1.out hR
    have x2 : w1.cell? ⟨R, 2, none⟩ = some (.int .i64 ((0 : Nat) : Int)) := box_cell h1 2
    have x1 : w1.cell? ⟨R, 1, none⟩ = some (.int .i64 at_) := box_cell h1 1
    have f2 := box_free h1 2
    have f1 := box_free h1 1
    have hke := Lib.hid (fun c : Nat => ((Kp.of hb1.out).set 2 (.int .i64 (c : Nat)) : Kp R w (w1.setCell ⟨R, 2, none⟩ (.int .i64 (c : Nat)))))
    have hre := Lib.hid (fun (c : Nat) (h : c ≠ 0) => (⟨at_, c, rd_set_e h1 c, h⟩ : RdrAt (w1.setCell ⟨R, 2, none⟩ (.int .i64 (c : Nat))) R s none))
    clear hsc y2
    rcases hsi.out with ⟨rfl, hz1, hz2, hsn⟩ | ⟨hc, hsn⟩
    · have hn := scan_lt hsn
      by_cases hnm : n ≤ most
      · have hnm1 : ¬ (most : Int) < (n : Int) := by omega
        have hzs : at_ + sz ≤ s.size := by have := hll.out; omega
        have hcall := Lib.hid (room_any s hs R at_ 0 n sz hzs w1 h1)
        have hw1 : IntKind.i64.wrap ((at_ : Int) + (sz : Int)) = ((at_ + sz : Nat) : Int) := by rw [IntKind.wrap_i64]; omega
        have hdr : l.drop sz = s.data.toList.drop (at_ + sz) := by rw [← hl.out, List.drop_drop]
        have hdl : (l.drop sz).length = s.size - at_ - sz := by rw [List.length_drop, hll.out]
        by_cases hfit : n ≤ s.size - at_ - sz
        · have hyes := Lib.hid (rText_ok hsn ⟨hnm, by rw [hdl]; exact hfit⟩)
          rw [hdr, List.drop_drop] at hyes
          rw [if_pos hfit] at hcall
          have hka := Lib.hid (fun w2 (h : Below w1.heap.size w1 w2) => (((Kp.of hb1.out).on h).set 1 (.int .i64 ((at_ + sz : Nat) : Int)) : Kp R w (w2.setCell ⟨R, 1, none⟩ (.int .i64 ((at_ + sz : Nat) : Int)))))
          have hra := Lib.hid (fun w2 (h : Below w1.heap.size w1 w2) => rd_set_at (bel_heapR h h1) (at_ + sz))
          have hfl : at_ + sz + n ≤ s.size := by omega
          have hc1 := Lib.hid (fun w2 (h : Below w1.heap.size w1 w2) => (⟨box_cell (bel_heapR h h1) 1, box_free (bel_heapR h h1) 1⟩ : w2.cell? ⟨R, 1, none⟩ = some (.int .i64 at_) ∧ w2.frozen? ⟨R, 1, none⟩ = false))
          generalize hA : at_ + sz = a2 at hw1 hyes hka hra hfl
          replace hyes := Lib.hid hyes
          replace hz1 := Lib.hid hz1
          clear hdr hdl hfit hzs hz2 hsn hnm hn hsi x1 f1 x2 f2 h1 hke hre hA
          go_wp2_with fail
          refine hcall.out.mono ?_
          rintro e w2 ⟨rfl, hb2⟩
          obtain ⟨x1, f1⟩ := hc1.out w2 hb2.out
          clear hcall hc1
          go_wp2_with fail
          go_ret2
          exact ⟨n, sz, rfl, Lib.hid (hka.out _ hb2.out), .inr ⟨hz1.out, a2, hfl, hyes.out.out, Lib.hid (hra.out _ hb2.out)⟩⟩
        · have hno := Lib.hid (rText_big (most := most) hsn (fun h => hfit (by rw [← hdl]; exact h.2)))
          rw [if_neg hfit] at hcall
          have hka := Lib.hid (fun w2 (h : Below w1.heap.size w1 w2) => (((Kp.of hb1.out).on h).set 2 (.int .i64 ((3 : Nat) : Int)) : Kp R w (w2.setCell ⟨R, 2, none⟩ (.int .i64 ((3 : Nat) : Int)))))
          have hra := Lib.hid (fun w2 (h : Below w1.heap.size w1 w2) => (⟨at_, 3, rd_set_e (bel_heapR h h1) 3, (by decide : (3 : Nat) ≠ 0)⟩ : RdrAt (w2.setCell ⟨R, 2, none⟩ (.int .i64 ((3 : Nat) : Int))) R s none))
          have hc1 := Lib.hid (fun w2 (h : Below w1.heap.size w1 w2) => (⟨box_cell (bel_heapR h h1) 2, box_free (bel_heapR h h1) 2⟩ : w2.cell? ⟨R, 2, none⟩ = some (.int .i64 ((0 : Nat) : Int)) ∧ w2.frozen? ⟨R, 2, none⟩ = false))
          clear hdr hdl hfit hzs hz2 hsn hnm hn hsi x1 f1 x2 f2 h1 hke hre hz1 hw1
          go_wp2_with fail
          refine hcall.out.mono ?_
          rintro e w2 ⟨rfl, hb2⟩
          obtain ⟨x2, f2⟩ := hc1.out w2 hb2.out
          clear hcall hc1
          go_wp2_with fail
          go_ret2
          exact ⟨0, 0, rfl, Lib.hid (hka.out _ hb2.out), .inl ⟨rfl, hno.out, Lib.hid (hra.out _ hb2.out)⟩⟩
      · have hnm1 : (most : Int) < (n : Int) := by omega
        have hno := Lib.hid (rText_big (most := most) hsn (fun h => hnm h.1))
        have hk2 := Lib.hid (hke.out 2)
        have hr2 := Lib.hid (hre.out 2 (by decide))
        clear hz1 hz2 hsn hnm hn hsi x1 f1 h1 hke hre
        go_wp2_with fail
        go_ret2
        exact ⟨0, 0, rfl, hk2, .inl ⟨rfl, hno.out, hr2⟩⟩
    · have hno := Lib.hid (rText_fail (most := most) hsn)
      have hc1 : ((c : Int) == 0) = false := by simp; omega
      have hc2 : ((c : Int) != 0) = true := by simp; omega
      have hk2 := Lib.hid (hke.out c)
      have hr2 := Lib.hid (hre.out c hc)
      clear hsn hsi x1 f1 h1 hke hre hc
      go_wp2_with fail
      go_ret2
      exact ⟨0, 0, rfl, hk2, .inl ⟨rfl, hno.out, hr2⟩⟩
theorem numR_any (s : ByteArray) (hs : s.size ≤ 1000000000000) (R : Nat) (o : PS) (w : World) (hr : RdrAt w R s o) :
    Calls Tryz.prog 23 #[.pointer (some ⟨R, 0, none⟩)] w fun e w' => e = .returned (.int .u64 (rNum 18446744073709551615 o).1) ∧ RdOut R s (rNum 18446744073709551615 o).2 w w' := by
  have hb := Lib.hid (boundAny_any s hs R o 18446744073709551615 w hr)
  clear hr
  generalize rNum 18446744073709551615 o = p at hb ⊢
  obtain ⟨n, o2⟩ := p
  dsimp only at hb ⊢
  go_enter Tryz.func23, Tryz.ntmps23
  go_wp2_with fail
  refine hb.out.mono ?_
  rintro e w1 ⟨sz, rfl, hk, hr⟩
  dsimp only
  clear hb
  go_wp2_with fail
  go_ret
  exact ⟨rfl, hk, hr⟩
theorem countR_any (s : ByteArray) (hs : s.size ≤ 1000000000000) (R : Nat) (o : PS) (most : Nat) (hm : most ≤ 1000) (w : World) (hr : RdrAt w R s o) :
    Calls Tryz.prog 32 #[.pointer (some ⟨R, 0, none⟩), .int .i64 most] w fun e w' => e = .returned (.int .i64 (rNum most o).1) ∧ RdOut R s (rNum most o).2 w w' := by
  have hb := Lib.hid (boundAny_any s hs R o most w hr)
  have hle : (rNum most o).1 ≤ most := by
    unfold rNum
    split
    · split
      · assumption
      · exact Nat.zero_le _
    · exact Nat.zero_le _
  clear hr
  generalize rNum most o = p at hb hle ⊢
  obtain ⟨n, o2⟩ := p
  dsimp only at hb hle ⊢
  have hw1 : IntKind.u64.wrap (most : Int) = (most : Int) := by rw [IntKind.wrap_u64]; omega
  have hw2 : IntKind.i64.wrap (n : Int) = (n : Int) := by rw [IntKind.wrap_i64]; omega
  have hmx : max (most : Int) 0 = (most : Int) := by omega
  go_enter Tryz.func32, Tryz.ntmps32
  go_wp2_with fail
  refine hb.out.mono ?_
  rintro e w1 ⟨sz, rfl, hk, hr⟩
  dsimp only
  clear hb
  go_wp2_with fail
  go_ret
  exact ⟨rfl, hk, hr⟩
set_option maxRecDepth 100000 in
theorem textR_any (s : ByteArray) (hs : s.size ≤ 1000000000000) (R : Nat) (o : PS) (most : Nat) (hm : most ≤ 1000) (w : World) (hr : RdrAt w R s o) :
    Calls Tryz.prog 24 #[.pointer (some ⟨R, 0, none⟩), .int .i64 most] w fun e w' => ∃ u : ByteArray, e = .returned (.string u) ∧ Hid (u.data.toList = (rText most o).1) ∧ RdOut R s (rText most o).2 w w' := by
  have hb := Lib.hid (boundRoom_any s hs R o most w hr)
  clear hr
  generalize rText most o = p at hb ⊢
  obtain ⟨t, o2⟩ := p
  dsimp only at hb ⊢
  have hw1 : IntKind.u64.wrap (most : Int) = (most : Int) := by rw [IntKind.wrap_u64]; omega
  have hmx : max (most : Int) 0 = (most : Int) := by omega
  go_enter Tryz.func24, Tryz.ntmps24
  go_wp2_with fail
  refine hb.out.mono ?_
  rintro e w1 ⟨n, sz, rfl, hk, hca⟩
  dsimp only
  clear hb
  rcases hca with ⟨rfl, hp, hr⟩ | ⟨hz, a2, hle, hp, hR⟩
  · injection hp with hp1 hp2
    subst hp1 hp2
    go_wp2_with fail
    go_ret
    exact ⟨_, rfl, Lib.hid rfl, hk, hr⟩
  · injection hp with hp1 hp2
    have hz0 : ((sz : Int) == 0) = false := by simp; omega
    have x0 : w1.cell? ⟨R, 0, none⟩ = some (.string s) := box_cell hR.out 0
    have x1 : w1.cell? ⟨R, 1, none⟩ = some (.int .i64 a2) := box_cell hR.out 1
    have hw2 : IntKind.i64.wrap (n : Int) = (n : Int) := by rw [IntKind.wrap_i64]; omega
    have hw3 : IntKind.i64.wrap ((a2 : Int) + (n : Int)) = ((a2 + n : Nat) : Int) := by rw [IntKind.wrap_i64]; omega
    have hst : Hid (RdrSt s (a2 + n) 0 (some (s.data.toList.drop (a2 + n)))) := Lib.hid ⟨rfl, hle, rfl⟩
    have hex : Hid ((s.extract a2 (a2 + n)).data.toList = t) := Lib.hid (by rw [ext_list, hp1, show a2 + n - a2 = n by omega])
    have hlt : (a2 : Int) ≤ ((a2 + n : Nat) : Int) := by omega
    have hlt2 : ((a2 + n : Nat) : Int) ≤ (s.size : Int) := by omega
    subst hp2
    generalize hA : a2 + n = a3 at hw3 hst hex hlt hlt2
    replace hz := Lib.hid hz
    replace hA := Lib.hid hA
    clear hle hp1
    go_wp2_with fail
    go_quiet (fail)
    have hk2 := Lib.hid (hk.out.on (below_drewN (Below.refl w1.heap.size w1) nq))
    have hR2 := Lib.hid (bel_heapR (below_drewN (Below.refl w1.heap.size w1) nq) hR.out)
    clear x0 x1 hk hR
    generalize w1.drewN nq = w2 at hk2 hR2 ⊢
    have x1 : w2.cell? ⟨R, 1, none⟩ = some (.int .i64 a2) := box_cell hR2.out 1
    have f1 := box_free hR2.out 1
    have hk3 := Lib.hid (hk2.out.set 1 (.int .i64 (a3 : Nat)))
    have hr3 : Hid (RdrAt (w2.setCell ⟨R, 1, none⟩ (.int .i64 (a3 : Nat))) R s (some (s.data.toList.drop a3))) := Lib.hid ⟨a3, 0, rd_set_at hR2.out a3, hst.out⟩
    clear hk2 hR2 hst
    go_wp2_with fail
    go_ret
    exact ⟨_, rfl, hex, hk3, by rw [hA.out]; exact hr3⟩
set_option maxRecDepth 100000 in
theorem endR_any (s : ByteArray) (R : Nat) (o : PS) (w : World) (hr : RdrAt w R s o) :
    Calls Tryz.prog 35 #[.pointer (some ⟨R, 0, none⟩)] w fun e w' => ∃ c : Nat, e = .returned (.int .i64 c) ∧ Hid (c = 0 ↔ o = some []) ∧ Hid (Kp R w w') := by
  obtain ⟨at_, e, hR, hst⟩ := hr
  have x0 : w.cell? ⟨R, 0, none⟩ = some (.string s) := box_cell hR 0
  have x1 : w.cell? ⟨R, 1, none⟩ = some (.int .i64 at_) := box_cell hR 1
  have x2 : w.cell? ⟨R, 2, none⟩ = some (.int .i64 e) := box_cell hR 2
  have hc := Lib.hid (fun w2 (h : Below w.heap.size w w2) => (⟨box_cell (bel_heapR h hR) 2, box_free (bel_heapR h hR) 2⟩ : w2.cell? ⟨R, 2, none⟩ = some (.int .i64 e) ∧ w2.frozen? ⟨R, 2, none⟩ = false))
  cases o with
  | none =>
    have he : ((e : Int) == 0) = false := by have h : e ≠ 0 := hst; simp; omega
    have hiff : Hid (e = 0 ↔ (none : PS) = some []) := Lib.hid ⟨fun h => absurd h hst, fun h => (by cases h)⟩
    clear hst hR
    go_enter Tryz.func35, Tryz.ntmps35
    go_wp2_with fail
    go_quiet (fail)
    have hbq := Lib.hid (below_drewN (Below.refl w.heap.size w) nq)
    obtain ⟨z2, -⟩ := hc.out _ hbq.out
    generalize w.drewN nq = w2 at hbq z2 ⊢
    go_wp2_with fail
    go_ret
    exact ⟨e, rfl, hiff, Lib.hid (Kp.of hbq.out)⟩
  | some l =>
    obtain ⟨he, hat, hl⟩ := hst
    subst he
    have hll : l.length = s.size - at_ := by rw [← hl, List.length_drop, ← size_len]
    by_cases hlt : at_ < s.size
    · have hlt1 : (at_ : Int) < (s.size : Int) := by omega
      have hiff : Hid ((9 : Nat) = 0 ↔ some l = some []) := Lib.hid ⟨fun h => (by cases h), fun h => (by have h2 := Option.some.inj h; rw [h2, List.length_nil] at hll; omega)⟩
      clear hl hll hR hlt
      go_enter Tryz.func35, Tryz.ntmps35
      go_wp2_with fail
      go_quiet (fail)
      have hbq := Lib.hid (below_drewN (Below.refl w.heap.size w) nq)
      obtain ⟨z2, f2⟩ := hc.out _ hbq.out
      generalize w.drewN nq = w2 at hbq z2 f2 ⊢
      have hk3 := Lib.hid ((Kp.of hbq.out).set 2 (.int .i64 9) : Kp R w (w2.setCell ⟨R, 2, none⟩ (.int .i64 9)))
      clear hc
      go_wp2_with fail
      go_ret
      exact ⟨9, rfl, hiff, hk3⟩
    · have hlt1 : ¬ (at_ : Int) < (s.size : Int) := by omega
      have hiff : Hid ((0 : Nat) = 0 ↔ some l = some []) := Lib.hid ⟨fun _ => (by have h2 : l = [] := List.eq_nil_of_length_eq_zero (by omega); rw [h2]), fun _ => rfl⟩
      clear hl hll hR hlt
      go_enter Tryz.func35, Tryz.ntmps35
      go_wp2_with fail
      go_quiet (fail)
      have hbq := Lib.hid (below_drewN (Below.refl w.heap.size w) nq)
      obtain ⟨z2, -⟩ := hc.out _ hbq.out
      generalize w.drewN nq = w2 at hbq z2 ⊢
      clear hc
      go_wp2_with fail
      go_ret
      exact ⟨0, rfl, by first | exact hiff | exact Lib.hid ⟨fun _ => hiff.out.1 trivial, fun _ => rfl⟩, Lib.hid (Kp.of hbq.out)⟩
end Go.Proofs.YtpkaoiadjffjiaaGreat
namespace Go.Proofs.YtpkaoiadjffjiaaGreat
set_option linter.unusedSimpArgs false
open Go.RowKit
attribute [local go_sem ↓] Go.wp_at_zero Go.wp_at_succ

set_option maxRecDepth 100000 in
set_option maxHeartbeats 16000000 in
theorem sameMl_any {W : World} (v1 v2 : Value) {m m2 : Ml} (h1 : MlIn W v1 m) (h2 : MlIn W v2 m2) (hz1 : AnySz m) (hz2 : AnySz m2) : Calls Tryz.prog 9 #[v1, v2] W (YesNo (m = m2) W) := by
  suffices hsuf : ∀ P : Prop, Hid (P ↔ m = m2) → Calls Tryz.prog 9 #[v1, v2] W (YesNo P W) from hsuf _ (Lib.hid Iff.rfl)
  intro P hP
  obtain ⟨vb, vh, vs, bs, rfl, hbs, hib, hih, his⟩ := h1
  obtain ⟨vb2, vh2, vs2, bs2, rfl, hbs2, hib2, hih2, his2⟩ := h2
  have hfz : ∀ (m : Ml) (bs : List BxV), AnySz m → bs.map BxV.b = m.boxes → (bs.length ≤ 1000000) ∧ ∀ y ∈ bs, y.rows.length ≤ 1000000 ∧ ∀ x ∈ y.rows, x.x.flags.length * 16 ≤ 140737488355328 := fun m bs hz e => by
    refine ⟨by have := hz.nb; rw [← e, List.length_map] at this; omega, fun y hy => ?_⟩
    have h1 : y.b ∈ m.boxes := by rw [← e]; exact List.mem_map.2 ⟨y, hy, rfl⟩
    refine ⟨?_, fun x hx => ?_⟩
    · have := hz.nl _ h1
      unfold BxV.b at this
      rw [List.length_map] at this
      omega
    · have := (hz.fl _ h1 x.x (List.mem_map.2 ⟨x, hx, rfl⟩)).1
      omega
  have hf1 := hfz m bs hz1 hbs
  have hf2 := hfz m2 bs2 hz2 hbs2
  obtain ⟨ab, cb, rfl, -⟩ := id hib.1
  obtain ⟨ab2, cb2, rfl, -⟩ := id hib2.1
  have heb := Lib.hid (fun A w (hb : Below W.heap.size W w) (hA : w.cell? ⟨A, 0, none⟩ = some (.func (.func 36) #[] #[])) => eqBxs_any (W := w) bs bs2 A ab ab2 cb cb2 (hib.below hb) (hib2.below hb) hf1.1 hf1.2 hf2.2 hA)
  have hes := Lib.hid (fun w (hb : Below W.heap.size W w) => eqSts_any (W := w) m.seats m2.seats vs vs2 (Rd.below his hb) (Rd.below his2 hb) (by have := hz1.ns; omega))
  have heh := Lib.hid (fun w (hb : Below W.heap.size W w) => eqHms_any (W := w) m.homes m2.homes vh vh2 (Rd.below hih hb) (Rd.below hih2 hb) (by have := hz1.nh; omega))
  obtain ⟨ah, ch, rfl, -⟩ := hih
  obtain ⟨as_, cs, rfl, -⟩ := his
  obtain ⟨ah2, ch2, rfl, -⟩ := hih2
  obtain ⟨as2, cs2, rfl, -⟩ := his2
  unfold mlVal
  rw [hbs, hbs2] at heb
  have hzz := ((Zoo.nil W).newBox [.slice ab bs.length cb, .int .u64 m.nv, .slice ah m.homes.length ch, .slice as_ m.seats.length cs, .int .u64 m.ns, .int .u64 m.sweeps].toArray 27).newBox [.slice ab2 bs2.length cb2, .int .u64 m2.nv, .slice ah2 m2.homes.length ch2, .slice as2 m2.seats.length cs2, .int .u64 m2.ns, .int .u64 m2.sweeps].toArray 27
  generalize hMA : W.heap.size = MA at hzz
  have hs1 : MA < (W.alloc (.cells [.slice ab bs.length cb, .int .u64 m.nv, .slice ah m.homes.length ch, .slice as_ m.seats.length cs, .int .u64 m.ns, .int .u64 m.sweeps].toArray 27)).heap.size := by rw [← hMA]; simp
  generalize hMB : (W.alloc (.cells [.slice ab bs.length cb, .int .u64 m.nv, .slice ah m.homes.length ch, .slice as_ m.seats.length cs, .int .u64 m.ns, .int .u64 m.sweeps].toArray 27)).heap.size = MB at hzz hs1
  generalize hWb : ((W.alloc (.cells [.slice ab bs.length cb, .int .u64 m.nv, .slice ah m.homes.length ch, .slice as_ m.seats.length cs, .int .u64 m.ns, .int .u64 m.sweeps].toArray 27)).alloc (.cells [.slice ab2 bs2.length cb2, .int .u64 m2.nv, .slice ah2 m2.homes.length ch2, .slice as2 m2.seats.length cs2, .int .u64 m2.ns, .int .u64 m2.sweeps].toArray 27)) = Wb at hzz
  have hbW := Lib.hid hzz.bel
  have hz3 := hzz.newBox #[.func (.func 36) #[] #[]] 73
  have hbW2 := Lib.hid hz3.bel
  have hV : Hid (∀ w', Below (Wb.alloc (.cells #[.func (.func 36) #[] #[]] 73)).heap.size (Wb.alloc (.cells #[.func (.func 36) #[] #[]] 73)) w' → (w'.cell? ⟨MA, 0, none⟩ = some (.slice ab bs.length cb) ∧ w'.cell? ⟨MA, 1, none⟩ = some (.int .u64 m.nv) ∧ w'.cell? ⟨MA, 2, none⟩ = some (.slice ah m.homes.length ch) ∧ w'.cell? ⟨MA, 3, none⟩ = some (.slice as_ m.seats.length cs) ∧ w'.cell? ⟨MA, 4, none⟩ = some (.int .u64 m.ns) ∧ w'.cell? ⟨MA, 5, none⟩ = some (.int .u64 m.sweeps) ∧ w'.cell? ⟨MB, 0, none⟩ = some (.slice ab2 bs2.length cb2) ∧ w'.cell? ⟨MB, 1, none⟩ = some (.int .u64 m2.nv) ∧ w'.cell? ⟨MB, 2, none⟩ = some (.slice ah2 m2.homes.length ch2) ∧ w'.cell? ⟨MB, 3, none⟩ = some (.slice as2 m2.seats.length cs2) ∧ w'.cell? ⟨MB, 4, none⟩ = some (.int .u64 m2.ns) ∧ w'.cell? ⟨MB, 5, none⟩ = some (.int .u64 m2.sweeps)) ∧ w'.cell? ⟨Wb.heap.size, 0, none⟩ = some (.func (.func 36) #[] #[])) := Lib.hid (fun w' hB => by
    have h1 := bel_heapR hB (hz3.box 2 rfl).1
    have h2 := bel_heapR hB (hz3.box 1 rfl).1
    have h3 := bel_heapR hB (hz3.box 0 rfl).1
    exact ⟨⟨box_cell h1 0, box_cell h1 1, box_cell h1 2, box_cell h1 3, box_cell h1 4, box_cell h1 5, box_cell h2 0, box_cell h2 1, box_cell h2 2, box_cell h2 3, box_cell h2 4, box_cell h2 5⟩, box_cell h3 0⟩)
  have hbb := Lib.hid (fun w' (h : Below (Wb.alloc (.cells #[.func (.func 36) #[] #[]] 73)).heap.size (Wb.alloc (.cells #[.func (.func 36) #[] #[]] 73)) w') => hbW2.out.trans (h.mono hbW2.out.size))
  clear hfz hf1 hf2 hz3 hzz hib hib2 hbs hbs2 hz1 hz2
  by_cases t0 : m.nv = m2.nv
  case neg =>
    have n0 : ((m.nv : Int) == (m2.nv : Int)) = false := by simp; omega
    have hne : Hid (¬ P) := Lib.hid (fun p => t0 (by rw [hP.out.1 p]))
    clear t0 hP hes heh heb
    have hbE := Lib.hid (hbb.out _ (Below.refl _ _))
    go_enter Tryz.func9, Tryz.ntmps9
    go_upto_region 3 with fail
    clear hWb
    obtain ⟨⟨x0, x1, x2, x3, x4, x5, y0, y1, y2, y3, y4, y5⟩, c0⟩ := hV.out _ (Below.refl _ _)
    go_wp2_with fail
    go_ret
    exact yn_f hne.out (by first | exact hbE | (rw [← hMA]; exact hbE))
  have n0 : ((m.nv : Int) == (m2.nv : Int)) = true := by simp; omega
  by_cases t1 : m.ns = m2.ns
  case neg =>
    have n1 : ((m.ns : Int) == (m2.ns : Int)) = false := by simp; omega
    have hne : Hid (¬ P) := Lib.hid (fun p => t1 (by rw [hP.out.1 p]))
    clear t0 t1 hP hes heh heb
    have hbE := Lib.hid (hbb.out _ (Below.refl _ _))
    go_enter Tryz.func9, Tryz.ntmps9
    go_upto_region 3 with fail
    clear hWb
    obtain ⟨⟨x0, x1, x2, x3, x4, x5, y0, y1, y2, y3, y4, y5⟩, c0⟩ := hV.out _ (Below.refl _ _)
    go_wp2_with fail
    go_ret
    exact yn_f hne.out (by first | exact hbE | (rw [← hMA]; exact hbE))
  have n1 : ((m.ns : Int) == (m2.ns : Int)) = true := by simp; omega
  by_cases t2 : m.sweeps = m2.sweeps
  case neg =>
    have n2 : ((m.sweeps : Int) == (m2.sweeps : Int)) = false := by simp; omega
    have hne : Hid (¬ P) := Lib.hid (fun p => t2 (by rw [hP.out.1 p]))
    clear t0 t1 t2 hP hes heh heb
    have hbE := Lib.hid (hbb.out _ (Below.refl _ _))
    go_enter Tryz.func9, Tryz.ntmps9
    go_upto_region 3 with fail
    clear hWb
    obtain ⟨⟨x0, x1, x2, x3, x4, x5, y0, y1, y2, y3, y4, y5⟩, c0⟩ := hV.out _ (Below.refl _ _)
    go_wp2_with fail
    go_ret
    exact yn_f hne.out (by first | exact hbE | (rw [← hMA]; exact hbE))
  have n2 : ((m.sweeps : Int) == (m2.sweeps : Int)) = true := by simp; omega
  have hiff : Hid (P ↔ m.seats = m2.seats ∧ m.homes = m2.homes ∧ m.boxes = m2.boxes) := Lib.hid (by
    rw [hP.out]
    obtain ⟨q0, q1, q2, q3, q4, q5⟩ := m
    obtain ⟨r0, r1, r2, r3, r4, r5⟩ := m2
    dsimp only at t0 t1 t2 ⊢
    subst t0 t1 t2
    exact ⟨fun e => (by injection e with e0 e1 e2 e3; exact ⟨e3, e2, e0⟩), fun e => (by rw [e.1, e.2.1, e.2.2])⟩)
  clear t0 t1 t2 hP
  go_enter Tryz.func9, Tryz.ntmps9
  go_upto_region 3 with fail
  clear hWb
  obtain ⟨⟨x0, x1, x2, x3, x4, x5, y0, y1, y2, y3, y4, y5⟩, c0⟩ := hV.out _ (Below.refl _ _)
  generalize (Wb.alloc (.cells #[.func (.func 36) #[] #[]] 73)) = Wc at *
  generalize Wb.heap.size = LA at *
  go_wp2_with fail
  refine (hes.out _ hbW2.out).mono ?_
  rintro e w1 ⟨B1, rfl, hB1, hb1⟩
  have hbF := Lib.hid (hbb.out _ hb1.out)
  clear x0 x1 x2 x3 x4 x5 y0 y1 y2 y3 y4 y5 c0
  cases B1 with
  | false =>
    have hne : Hid (¬ P) := Lib.hid (fun p => by have := hB1.out.2 (hiff.out.1 p).1; cases this)
    clear hiff hB1
    go_wp2_with fail
    go_ret
    exact yn_f hne.out (by first | exact hbF | (rw [← hMA]; exact hbF))
  | true =>
  obtain ⟨⟨x0, x1, x2, x3, x4, x5, y0, y1, y2, y3, y4, y5⟩, c0⟩ := hV.out _ hb1.out
  go_wp2_with fail
  refine (heh.out _ hbF.out).mono ?_
  rintro e w2 ⟨B2, rfl, hB2, hb2⟩
  have hb12 := Lib.hid (hb1.out.trans (hb2.out.mono hb1.out.size))
  have hbF2 := Lib.hid (hbb.out _ hb12.out)
  clear x0 x1 x2 x3 x4 x5 y0 y1 y2 y3 y4 y5 c0
  cases B2 with
  | false =>
    have hne : Hid (¬ P) := Lib.hid (fun p => by have := hB2.out.2 (hiff.out.1 p).2.1; cases this)
    clear hiff hB1 hB2
    go_wp2_with fail
    go_ret
    exact yn_f hne.out (by first | exact hbF2 | (rw [← hMA]; exact hbF2))
  | true =>
  obtain ⟨⟨x0, x1, x2, x3, x4, x5, y0, y1, y2, y3, y4, y5⟩, c0⟩ := hV.out _ hb12.out
  go_wp2_with fail
  refine (heb.out LA _ hbF2.out c0).mono ?_
  rintro e w3 ⟨B3, rfl, hB3, hb3⟩
  have hb13 := Lib.hid (hb12.out.trans (hb3.out.mono hb12.out.size))
  have hbF3 := Lib.hid (hbb.out _ hb13.out)
  have hfin : Hid (B3 = true ↔ P) := Lib.hid (by
    rw [hB3.out, hiff.out]
    exact ⟨fun h => ⟨hB1.out.1 (by first | rfl | trivial), hB2.out.1 (by first | rfl | trivial), h⟩, fun h => h.2.2⟩)
  clear x0 x1 x2 x3 x4 x5 y0 y1 y2 y3 y4 y5 c0 hiff hB1 hB2 hB3
  go_wp2_with fail
  go_ret
  exact yn_b hfin.out (by first | exact hbF3 | (rw [← hMA]; exact hbF3))
end Go.Proofs.YtpkaoiadjffjiaaGreat
