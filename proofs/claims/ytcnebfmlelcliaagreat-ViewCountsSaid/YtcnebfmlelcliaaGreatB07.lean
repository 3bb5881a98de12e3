/- Canon, of the program and of the document: a flag as it is kept. What a mailbox may be called: walked. slices.Delete at mailboxes; named, remove: walked. -/
import Derived.Test.YtcnebfmlelcliaaGreatB06
import Derived.Test.YtcnebfmlelcliaaGreatB05
import Derived.Shelf.RegionOpenPlain
import Derived.Deep.RegionLaw
namespace Go.Proofs.YtcnebfmlelcliaaGreat
open Go.RowKit

/-- e returns a text whose bytes are l; of what was there nothing has turned -/
def RetStr (l : List UInt8) (w : World) (e : Ending) (w' : World) : Prop := ∃ u : ByteArray, e = .returned (.string u) ∧ Hid (u.data.toList = l) ∧ Below w.heap.size w w'
theorem upperS_any (s : ByteArray) (hs : s.size ≤ maxLen) (w : World) : Calls Tryz.prog 94 #[.string s] w (RetStr (upL s.data.toList) w) :=
  (upper_any s hs w).mono fun _ _ ⟨he, hb⟩ => ⟨_, he, rfl, hb⟩
theorem refUpperS_any (s : ByteArray) (hs : s.size ≤ maxLen) (w : World) : Calls Tryz.prog 83 #[.string s] w (RetStr (upL s.data.toList) w) :=
  (refUpper_any s hs w).mono fun _ _ ⟨he, hb⟩ => ⟨_, he, rfl, hb⟩
def CanonRet (s : List UInt8) (w : World) (e : Ending) (w' : World) : Prop := ∃ (u : ByteArray) (ok : Bool), e = .returned (.tuple #[.string u, .bool ok]) ∧ Hid (canonL s = (if ok then some u.data.toList else none) ∧ (ok = false → u = ⟨#[]⟩)) ∧ Hid (Below w.heap.size w w')
theorem canon_yes {s : List UInt8} {w w' : World} {u : ByteArray} (h : canonL s = some u.data.toList) (hb : Below w.heap.size w w') : CanonRet s w (.returned (.tuple #[.string u, .bool true])) w' := ⟨u, true, rfl, Lib.hid ⟨h, fun h => by cases h⟩, Lib.hid hb⟩
theorem canon_no {s : List UInt8} {w w' : World} (h : canonL s = none) (hb : Below w.heap.size w w') : CanonRet s w (.returned (.tuple #[.string ⟨#[]⟩, .bool false])) w' := ⟨⟨#[]⟩, false, rfl, Lib.hid ⟨h, fun _ => rfl⟩, Lib.hid hb⟩
def isSys (s : List UInt8) (j : Nat) : Bool := upL (sysL.getD j []) == upL s
theorem canon_sys (s : List UInt8) (k : Nat) (hk : k < 5) (h1 : ∀ j, j < k → isSys s j = false) (h2 : isSys s k = true) : canonL s = some (sysL.getD k []) := by
  have hf : sysL.find? (fun f => upL f == upL s) = some (sysL.getD k []) := by
    have e : ∀ (l : List (List UInt8)) (k : Nat), k < l.length → (∀ j, j < k → (upL (l.getD j []) == upL s) = false) → (upL (l.getD k []) == upL s) = true → l.find? (fun f => upL f == upL s) = some (l.getD k []) := by
      intro l
      induction l with
      | nil => intro k hk; simp at hk
      | cons x r ih =>
        intro k hk h1 h2
        match k, hk, h1, h2 with
        | 0, _, _, h2 => rw [List.find?_cons, show (upL x == upL s) = true from h2]; rfl
        | k + 1, hk, h1, h2 =>
          rw [List.find?_cons, show (upL x == upL s) = false from h1 0 (by omega)]
          exact ih k (by simpa using hk) (fun j hj => h1 (j + 1) (by omega)) h2
    exact e sysL k hk h1 h2
  rw [canonL, hf]
theorem canon_key (s : List UInt8) (h1 : ∀ j, j < 5 → isSys s j = false) : canonL s = if keyB s then some (lowL s) else none := by
  have hf : sysL.find? (fun f => upL f == upL s) = none := by
    rw [List.find?_eq_none]
    intro x hx
    obtain ⟨j, hj, rfl⟩ := List.getElem_of_mem hx
    have := h1 j hj
    rw [isSys, List.getD, List.getElem?_eq_getElem hj] at this
    simpa using this
  rw [canonL, hf]
theorem eqS_of {u v : ByteArray} {l m : List UInt8} (hu : Hid (u.data.toList = l)) (hv : Hid (v.data.toList = m)) : (u.toList == v.toList) = (l == m) := by rw [eq_str, hu.out, hv.out]
theorem run_index_sys (k : Nat) (hk : k < 5) (w : World) : (Instr.index 168 sysV (.int .i64 k)).run Tryz.prog w = .ok (.string (mkB (sysL.getD k []))) w := by
  have hu : ∀ w, (underlying 168).run Tryz.prog w = .ok (.array 5 9) w := run_underlying Tryz.underlying168
  have hz : ∀ w, (Go.sizeOf 9).run Tryz.prog w = .ok 1 w := Tryz.sizeOf9
  have ha : ∀ w, (isAgg 9).run Tryz.prog w = .ok false w := Tryz.isAgg9
  unfold Instr.index sysV
  match k, hk with
  | 0, _ => simp [asIntOf, hu, hz, part, ha, sysL, mkB]
  | 1, _ => simp [asIntOf, hu, hz, part, ha, sysL, mkB]
  | 2, _ => simp [asIntOf, hu, hz, part, ha, sysL, mkB]
  | 3, _ => simp [asIntOf, hu, hz, part, ha, sysL, mkB]
  | 4, _ => simp [asIntOf, hu, hz, part, ha, sysL, mkB]
theorem sys_le (k : Nat) (hk : k < 5) : (mkB (sysL.getD k [])).size ≤ maxLen := by
  have h : (mkB (sysL.getD k [])).size ≤ 9 := by
    match k, hk with
    | 0, _ => exact Nat.le_of_ble_eq_true rfl
    | 1, _ => exact Nat.le_of_ble_eq_true rfl
    | 2, _ => exact Nat.le_of_ble_eq_true rfl
    | 3, _ => exact Nat.le_of_ble_eq_true rfl
    | 4, _ => exact Nat.le_of_ble_eq_true rfl
  unfold maxLen; omega
set_option maxRecDepth 100000 in
set_option maxHeartbeats 2000000 in
theorem canon_any (s : ByteArray) (hs0 : s.size ≤ maxLen) (w : World) : Calls Tryz.prog 98 #[.string s] w (CanonRet s.data.toList w) := by
  have hs9 := Lib.hid hs0
  clear hs0
  go_enter Tryz.func98, Tryz.ntmps98
  go_wp2_with fail
  refine (system_any w).mono ?_
  rintro e w1 ⟨rfl, l1⟩
  have b1 := Lib.hid l1.below
  clear l1
  unfold sysV
  go_wp2_with fail
  go_loopw [7] (fun vk wr => ∃ k : Nat, vk = .int .i64 k ∧ k ≤ 5 ∧ Hid (∀ j, j < k → isSys s.data.toList j = false) ∧ Hid (Below w.heap.size w wr)) (fun vk _ => 5 - (intOf vk).toNat)
  case atStart => exact ⟨0, rfl, by omega, Lib.hid (fun j h => absurd h (Nat.not_lt_zero _)), b1⟩
  case round =>
    obtain ⟨k, rfl, hk, hno, hb⟩ := hrel
    have h5 : k = 0 ∨ k = 1 ∨ k = 2 ∨ k = 3 ∨ k = 4 ∨ k = 5 := by omega
    clear hk
    rcases h5 with rfl | rfl | rfl | rfl | rfl | rfl
    · have hix := run_index_sys 0 (by omega) wr
      unfold sysV at hix
      rw [show ((0 : Nat) : Int) = (0 : Int) from rfl] at hix ⊢
      go_wp2_with fail
      refine (upperS_any (mkB (sysL.getD 0 [])) (sys_le 0 (by omega)) wr).mono ?_
      rintro e w2 ⟨U1, rfl, hU1, hb1⟩
      go_wp2_with fail
      refine (upperS_any s hs9.out w2).mono ?_
      rintro e w3 ⟨U2, rfl, hU2, hb2⟩
      have hq := eqS_of hU1 hU2
      have hq' : (U1.toList == U2.toList) = isSys s.data.toList 0 := hq
      have hb3 := Lib.hid ((hb.out.trans (hb1.mono hb.out.size)).trans (hb2.mono (Nat.le_trans hb.out.size hb1.size)))
      clear hb1 hb2 hU1 hU2 hq
      cases h : isSys s.data.toList 0
      · rw [h] at hq'
        have hno' : Hid (∀ j, j < 0 + 1 → isSys s.data.toList j = false) := Lib.hid (fun j hj => by
          rcases Nat.lt_or_ge j 0 with h1 | h1
          · exact hno.out j h1
          · obtain rfl : j = 0 := by omega
            exact h)
        replace h := Lib.hid h
        go_wp2_with fail
        go_roundw
        case rel => exact ⟨0 + 1, by go_num, by omega, hno', hb3⟩
        case measure => simp [intOf]
      · rw [h] at hq'
        have hc := Lib.hid (canon_sys s.data.toList 0 (by omega) hno.out h)
        replace h := Lib.hid h
        go_wp2_with fail
        go_ret2
        exact canon_yes hc.out hb3.out
    · have hix := run_index_sys 1 (by omega) wr
      unfold sysV at hix
      rw [show ((1 : Nat) : Int) = (1 : Int) from rfl] at hix ⊢
      go_wp2_with fail
      refine (upperS_any (mkB (sysL.getD 1 [])) (sys_le 1 (by omega)) wr).mono ?_
      rintro e w2 ⟨U1, rfl, hU1, hb1⟩
      go_wp2_with fail
      refine (upperS_any s hs9.out w2).mono ?_
      rintro e w3 ⟨U2, rfl, hU2, hb2⟩
      have hq := eqS_of hU1 hU2
      have hq' : (U1.toList == U2.toList) = isSys s.data.toList 1 := hq
      have hb3 := Lib.hid ((hb.out.trans (hb1.mono hb.out.size)).trans (hb2.mono (Nat.le_trans hb.out.size hb1.size)))
      clear hb1 hb2 hU1 hU2 hq
      cases h : isSys s.data.toList 1
      · rw [h] at hq'
        have hno' : Hid (∀ j, j < 1 + 1 → isSys s.data.toList j = false) := Lib.hid (fun j hj => by
          rcases Nat.lt_or_ge j 1 with h1 | h1
          · exact hno.out j h1
          · obtain rfl : j = 1 := by omega
            exact h)
        replace h := Lib.hid h
        go_wp2_with fail
        go_roundw
        case rel => exact ⟨1 + 1, by go_num, by omega, hno', hb3⟩
        case measure => simp [intOf]
      · rw [h] at hq'
        have hc := Lib.hid (canon_sys s.data.toList 1 (by omega) hno.out h)
        replace h := Lib.hid h
        go_wp2_with fail
        go_ret2
        exact canon_yes hc.out hb3.out
    · have hix := run_index_sys 2 (by omega) wr
      unfold sysV at hix
      rw [show ((2 : Nat) : Int) = (2 : Int) from rfl] at hix ⊢
      go_wp2_with fail
      refine (upperS_any (mkB (sysL.getD 2 [])) (sys_le 2 (by omega)) wr).mono ?_
      rintro e w2 ⟨U1, rfl, hU1, hb1⟩
      go_wp2_with fail
      refine (upperS_any s hs9.out w2).mono ?_
      rintro e w3 ⟨U2, rfl, hU2, hb2⟩
      have hq := eqS_of hU1 hU2
      have hq' : (U1.toList == U2.toList) = isSys s.data.toList 2 := hq
      have hb3 := Lib.hid ((hb.out.trans (hb1.mono hb.out.size)).trans (hb2.mono (Nat.le_trans hb.out.size hb1.size)))
      clear hb1 hb2 hU1 hU2 hq
      cases h : isSys s.data.toList 2
      · rw [h] at hq'
        have hno' : Hid (∀ j, j < 2 + 1 → isSys s.data.toList j = false) := Lib.hid (fun j hj => by
          rcases Nat.lt_or_ge j 2 with h1 | h1
          · exact hno.out j h1
          · obtain rfl : j = 2 := by omega
            exact h)
        replace h := Lib.hid h
        go_wp2_with fail
        go_roundw
        case rel => exact ⟨2 + 1, by go_num, by omega, hno', hb3⟩
        case measure => simp [intOf]
      · rw [h] at hq'
        have hc := Lib.hid (canon_sys s.data.toList 2 (by omega) hno.out h)
        replace h := Lib.hid h
        go_wp2_with fail
        go_ret2
        exact canon_yes hc.out hb3.out
    · have hix := run_index_sys 3 (by omega) wr
      unfold sysV at hix
      rw [show ((3 : Nat) : Int) = (3 : Int) from rfl] at hix ⊢
      go_wp2_with fail
      refine (upperS_any (mkB (sysL.getD 3 [])) (sys_le 3 (by omega)) wr).mono ?_
      rintro e w2 ⟨U1, rfl, hU1, hb1⟩
      go_wp2_with fail
      refine (upperS_any s hs9.out w2).mono ?_
      rintro e w3 ⟨U2, rfl, hU2, hb2⟩
      have hq := eqS_of hU1 hU2
      have hq' : (U1.toList == U2.toList) = isSys s.data.toList 3 := hq
      have hb3 := Lib.hid ((hb.out.trans (hb1.mono hb.out.size)).trans (hb2.mono (Nat.le_trans hb.out.size hb1.size)))
      clear hb1 hb2 hU1 hU2 hq
      cases h : isSys s.data.toList 3
      · rw [h] at hq'
        have hno' : Hid (∀ j, j < 3 + 1 → isSys s.data.toList j = false) := Lib.hid (fun j hj => by
          rcases Nat.lt_or_ge j 3 with h1 | h1
          · exact hno.out j h1
          · obtain rfl : j = 3 := by omega
            exact h)
        replace h := Lib.hid h
        go_wp2_with fail
        go_roundw
        case rel => exact ⟨3 + 1, by go_num, by omega, hno', hb3⟩
        case measure => simp [intOf]
      · rw [h] at hq'
        have hc := Lib.hid (canon_sys s.data.toList 3 (by omega) hno.out h)
        replace h := Lib.hid h
        go_wp2_with fail
        go_ret2
        exact canon_yes hc.out hb3.out
    · have hix := run_index_sys 4 (by omega) wr
      unfold sysV at hix
      rw [show ((4 : Nat) : Int) = (4 : Int) from rfl] at hix ⊢
      go_wp2_with fail
      refine (upperS_any (mkB (sysL.getD 4 [])) (sys_le 4 (by omega)) wr).mono ?_
      rintro e w2 ⟨U1, rfl, hU1, hb1⟩
      go_wp2_with fail
      refine (upperS_any s hs9.out w2).mono ?_
      rintro e w3 ⟨U2, rfl, hU2, hb2⟩
      have hq := eqS_of hU1 hU2
      have hq' : (U1.toList == U2.toList) = isSys s.data.toList 4 := hq
      have hb3 := Lib.hid ((hb.out.trans (hb1.mono hb.out.size)).trans (hb2.mono (Nat.le_trans hb.out.size hb1.size)))
      clear hb1 hb2 hU1 hU2 hq
      cases h : isSys s.data.toList 4
      · rw [h] at hq'
        have hno' : Hid (∀ j, j < 4 + 1 → isSys s.data.toList j = false) := Lib.hid (fun j hj => by
          rcases Nat.lt_or_ge j 4 with h1 | h1
          · exact hno.out j h1
          · obtain rfl : j = 4 := by omega
            exact h)
        replace h := Lib.hid h
        go_wp2_with fail
        go_roundw
        case rel => exact ⟨4 + 1, by go_num, by omega, hno', hb3⟩
        case measure => simp [intOf]
      · rw [h] at hq'
        have hc := Lib.hid (canon_sys s.data.toList 4 (by omega) hno.out h)
        replace h := Lib.hid h
        go_wp2_with fail
        go_ret2
        exact canon_yes hc.out hb3.out
    · rw [show ((5 : Nat) : Int) = (5 : Int) from rfl]
      go_wp2_with fail
      refine (atom_any s hs9.out wr).mono ?_
      rintro e w2 ⟨rfl, rfl⟩
      have hck := Lib.hid (canon_key s.data.toList hno.out)
      cases ha : allS atomB s.data.toList
      · have hn : Hid (canonL s.data.toList = none) := Lib.hid (by rw [hck.out, keyB, ha]; rfl)
        clear hck
        replace ha := Lib.hid ha
        go_wp2_with fail
        go_ret2
        exact canon_no hn.out hb.out
      · by_cases hlen : s.size ≤ 32
        · have hy : Hid (canonL s.data.toList = some (lowL s.data.toList)) := Lib.hid (by rw [hck.out, keyB, ha, ← size_len, decide_eq_true hlen]; rfl)
          clear hck
          replace ha := Lib.hid ha
          go_wp2_with fail
          refine (small_any s hs9.out wr).mono ?_
          rintro e w3 ⟨rfl, hb3⟩
          have hb4 := Lib.hid (hb.out.trans (hb3.mono hb.out.size))
          clear hb3
          go_wp2_with fail
          go_ret2
          exact canon_yes hy.out hb4.out
        · have hn : Hid (canonL s.data.toList = none) := Lib.hid (by rw [hck.out, keyB, ha, ← size_len, decide_eq_false hlen]; rfl)
          clear hck
          replace ha := Lib.hid ha
          go_wp2_with fail
          go_ret2
          exact canon_no hn.out hb.out
theorem refSystem_any (k : Nat) (hk : k < 5) (w : World) : Calls Tryz.prog 105 #[.int .i64 k] w fun e w' => e = .returned (.string (mkB (sysL.getD k []))) ∧ w = w' := by
  have h5 : k = 0 ∨ k = 1 ∨ k = 2 ∨ k = 3 ∨ k = 4 := by omega
  clear hk
  rcases h5 with rfl | rfl | rfl | rfl | rfl
  all_goals
    go_enter Tryz.func105, Tryz.ntmps105
    go_wp2_with fail
    go_ret
    exact ⟨rfl, rfl⟩
end Go.Proofs.YtcnebfmlelcliaaGreat
namespace Go.Proofs.YtcnebfmlelcliaaGreat
open Go.RowKit

set_option maxHeartbeats 400000 in
theorem box1_any (c : Int) (w : World) (h0 : 0 ≤ c) (h1 : c < 256) :
    Calls Tryz.prog 91 #[.int .u8 c] w fun e w' => e = .returned (.bool (boxB c)) ∧ w = w' := by
  go_enter Tryz.func91, Tryz.ntmps91
  go_wp2_with (go_at_call 92; refine (indexByte_any _ _ (by omega) (by omega) _).mono ?_; rintro e w' ⟨r, rfl, hr, rfl⟩)
  all_goals (go_ret; first | (have hr := hr.out; exact ⟨ret_bool (by rw [hr]; unfold boxB; generalize inL c _ = b; cases b <;> simp <;> omega), rfl⟩) | exact ⟨ret_bool (by unfold boxB; generalize inL c _ = b; cases b <;> simp <;> omega), rfl⟩)
theorem asks_box : Asks Tryz.prog 91 boxB := ⟨fun _ _ => by go_simp, fun c w h0 h1 => box1_any c w h0 h1⟩

theorem quot_step {p : Int → Bool} (s : ByteArray) (k : Nat) (h : k < s.size) (hq : Hid (allB p (s.data.toList.take k) = true)) (hc : p s[k].toNat = true) : Hid (allB p (s.data.toList.take (k + 1)) = true) := by
  show _ = _
  rw [take_snoc s k h, allB_snoc, hq.out, hc]; rfl
def inboxL : List UInt8 := [73, 78, 66, 79, 88]
def boxEnds (l : List UInt8) : Bool := !((l.headD 0).toNat == (32 : Int)) && !((l.getLastD 0).toNat == (32 : Int))
def boxOk (l : List UInt8) : Bool := allS boxB l && (decide (l.length ≤ 64) && boxEnds l)
def boxL (l : List UInt8) : List UInt8 := if boxOk l then (if upL l == inboxL then inboxL else l) else []
def RetBox (l : List UInt8) (w : World) (e : Ending) (w' : World) : Prop := ∃ u : ByteArray, e = .returned (.tuple #[.string u, .bool (boxOk l)]) ∧ Hid (u.data.toList = boxL l) ∧ Below w.heap.size w w'

theorem head_at (s : ByteArray) (h : 0 < s.size) : s.data.toList.headD 0 = s[0] := by
  have := drop_cons s 0 h
  rw [List.drop_zero] at this
  generalize s.data.toList.drop (0 + 1) = r at this
  rw [this]; rfl
theorem last_at (s : ByteArray) (h : 0 < s.size) : s.data.toList.getLastD 0 = s[s.size - 1]'(by omega) := by
  have h1 := take_snoc s (s.size - 1) (by omega)
  rw [show s.size - 1 + 1 = s.size from by omega, take_all] at h1
  generalize s.data.toList.take (s.size - 1) = r at h1
  rw [h1]; simp
theorem box_no {l : List UInt8} (h : boxOk l = false) : boxL l = [] := by rw [boxL, h]; rfl
theorem ret_box {l : List UInt8} {s : ByteArray} {b : Bool} (h : b = boxOk l) : Ending.returned (.tuple #[.string s, .bool b]) = .returned (.tuple #[.string s, .bool (boxOk l)]) := by rw [h]
theorem allS_pos {p : Int → Bool} {s : ByteArray} (h : allS p s.data.toList = true) : 0 < s.size := by
  rcases Nat.eq_zero_or_pos s.size with h' | h'
  · rw [size_len] at h'; rw [List.eq_nil_of_length_eq_zero h'] at h; simp [allS] at h
  · exact h'
theorem box_bad_len (s : ByteArray) (h : ¬ s.size ≤ 64) : boxOk s.data.toList = false := by rw [boxOk, ← size_len, decide_eq_false h]; simp
theorem box_bad_0 (s : ByteArray) (h : 0 < s.size) (h0 : ((s[0].toNat : Int) == 32) = true) : boxOk s.data.toList = false := by rw [boxOk, boxEnds, head_at s h, h0]; simp
theorem box_bad_1 (s : ByteArray) (h : 0 < s.size) (h1 : (((s[s.size - 1]'(by omega)).toNat : Int) == 32) = true) : boxOk s.data.toList = false := by rw [boxOk, boxEnds, last_at s h, h1]; simp
theorem box_good (s : ByteArray) (h : 0 < s.size) (ha : allS boxB s.data.toList = true) (hsz : s.size ≤ 64) (h0 : ((s[0].toNat : Int) == 32) = false) (h1 : (((s[s.size - 1]'(by omega)).toNat : Int) == 32) = false) : boxOk s.data.toList = true := by
  rw [boxOk, boxEnds, head_at s h, last_at s h, h0, h1, ha, ← size_len, decide_eq_true hsz]; rfl
theorem box_inbox {s u : ByteArray} (hk : boxOk s.data.toList = true) (hu : u.data.toList = upL s.data.toList) (hn : (u.toList == [73, 78, 66, 79, 88]) = true) : (⟨#[73, 78, 66, 79, 88]⟩ : ByteArray).data.toList = boxL s.data.toList := by
  rw [ByteArray.toList_eq, hu] at hn
  rw [boxL, hk, if_pos rfl, if_pos (show (upL s.data.toList == inboxL) = true from hn)]; rfl
theorem box_same {s u : ByteArray} (hk : boxOk s.data.toList = true) (hu : u.data.toList = upL s.data.toList) (hn : (u.toList == [73, 78, 66, 79, 88]) = false) : s.data.toList = boxL s.data.toList := by
  rw [ByteArray.toList_eq, hu] at hn
  rw [boxL, hk, if_pos rfl, if_neg (by rw [inboxL, hn]; simp)]
set_option maxHeartbeats 2000000 in
theorem box_any (s : ByteArray) (hs : s.size ≤ maxLen) (w : World) :
    Calls Tryz.prog 65 #[.string s] w (RetBox s.data.toList w) := by
  unfold maxLen at hs
  cases ha : allS boxB s.data.toList
  case' false => have hf : Hid (boxOk s.data.toList = false) := by show _ = _; rw [boxOk, ha]; rfl
  case' true => have hpos := allS_pos ha
  case' true => by_cases hsz : s.size ≤ 64
  case' neg => have hf := Lib.hid (box_bad_len s hsz)
  case' pos => cases h0 : ((s[0].toNat : Int) == 32)
  case' pos.true => have hf := Lib.hid (box_bad_0 s hpos h0)
  case' pos.false => cases h1 : (((s[s.size - 1]'(by omega)).toNat : Int) == 32)
  case' pos.false.true => have hf := Lib.hid (box_bad_1 s hpos h1)
  case' pos.false.false =>
    have hg := Lib.hid (box_good s hpos ha hsz h0 h1)
    go_enter Tryz.func65, Tryz.ntmps65
    go_wp2_with fail
    refine (all_any _ _ asks_box s (by unfold maxLen; omega) w).mono ?_
    rintro e w' ⟨rfl, rfl⟩
    rw [ha]
    go_wp2_with fail
    refine (upperS_any s (by unfold maxLen; omega) w).mono ?_
    rintro e w1 ⟨u, rfl, hu, hbw⟩
    cases hn : (u.toList == [73, 78, 66, 79, 88])
    · go_wp2_with fail
      go_ret2
      exact ⟨_, ret_box hg.out.symm, box_same hg.out hu.out hn, hbw⟩
    · go_wp2_with fail
      go_ret2
      exact ⟨_, ret_box hg.out.symm, box_inbox hg.out hu.out hn, hbw⟩
  all_goals
    go_enter Tryz.func65, Tryz.ntmps65
    go_wp2_with fail
    refine (all_any _ _ asks_box s (by unfold maxLen; omega) w).mono ?_
    rintro e w' ⟨rfl, rfl⟩
    rw [ha]
    go_wp2_with fail
    go_ret2
    exact ⟨⟨#[]⟩, ret_box hf.out.symm, (box_no hf.out).symm, Below.refl _ _⟩

theorem boxB_low {c : Int} (h : c < 32) : boxB c = false := by rw [boxB, decide_eq_false (by omega)]; rfl
theorem boxB_high {c : Int} (h : 126 < c) : boxB c = false := by rw [boxB, decide_eq_false (p := c < 127) (by omega)]; simp
theorem boxB_mid {c : Int} (h1 : 32 ≤ c) (h2 : c ≤ 126) : boxB c = !inL c [37, 42, 34, 92] := by rw [boxB, decide_eq_true h1, decide_eq_true (p := c < 127) (by omega)]; rfl
theorem allS_false {p : Int → Bool} (s : ByteArray) (k : Nat) (h : k < s.size) (hp : p s[k].toNat = false) : allS p s.data.toList = false := by rw [allS, allB_false p s k h hp]; rfl
theorem allS_true {p : Int → Bool} (s : ByteArray) (h : 0 < s.size) (hp : allB p s.data.toList = true) : allS p s.data.toList = true := by
  rw [allS, hp, ← size_pos_bool, decide_eq_true h]; rfl
theorem boxB_bad {c : Int} (h : (c < 32 ∨ 126 < c) ∨ inL c [37, 42, 34, 92] = true) : boxB c = false := by
  rcases h with (h | h) | h
  · exact boxB_low h
  · exact boxB_high h
  · rw [boxB, h]; simp
theorem box_bad_all (s : ByteArray) (h : allS boxB s.data.toList = false) : boxOk s.data.toList = false := by rw [boxOk, h]; rfl
set_option maxHeartbeats 2000000 in
theorem refBox_any (s : ByteArray) (hs : s.size ≤ maxLen) (w : World) :
    Calls Tryz.prog 52 #[.string s] w (RetBox s.data.toList w) := by
  unfold maxLen at hs
  by_cases hpos : 0 < s.size
  · by_cases hsz : s.size ≤ 64
    · cases h0 : ((s[0].toNat : Int) == 32)
      case true =>
        have hf := Lib.hid (box_bad_0 s hpos h0)
        go_enter Tryz.func52, Tryz.ntmps52
        go_wp2_with fail
        go_ret2
        exact ⟨⟨#[]⟩, ret_box hf.out.symm, (box_no hf.out).symm, Below.refl _ _⟩
      cases h1 : (((s[s.size - 1]'(by omega)).toNat : Int) == 32)
      case true =>
        have hf := Lib.hid (box_bad_1 s hpos h1)
        go_enter Tryz.func52, Tryz.ntmps52
        go_wp2_with fail
        go_ret2
        exact ⟨⟨#[]⟩, ret_box hf.out.symm, (box_no hf.out).symm, Below.refl _ _⟩
      have hg : Hid (allS boxB s.data.toList = true → boxOk s.data.toList = true) := fun ha => box_good s hpos ha hsz h0 h1
      go_enter Tryz.func52, Tryz.ntmps52
      go_wp2_with fail
      clear h0 h1
      go_loop [4] (fun i => ∃ k : Nat, k ≤ s.size ∧ i = .int .i64 k ∧ Hid (allB boxB (s.data.toList.take k) = true)) (fun i => s.size - (intOf i).toNat)
      case atStart => exact ⟨0, Nat.zero_le _, rfl, rfl⟩
      case round =>
        obtain ⟨k, hk, rfl, hp⟩ := hrel
        by_cases hlt : k < s.size
        · go_wp2_with (go_at_call 82; refine (in_any _ _ (by decide) _).mono ?_; rintro e w' ⟨rfl, rfl⟩)
          case' roundEnd =>
            have hh : (32 ≤ (s[k].toNat : Int) ∧ (s[k].toNat : Int) ≤ 126) ∧ inL s[k].toNat [37, 42, 34, 92] = false := by assumption
            exact ⟨⟨k + 1, by omega, by go_num, quot_step s k hlt hp (by rw [boxB_mid hh.1.1 hh.1.2, hh.2]; rfl)⟩, by simp [intOf]; omega⟩
          · have hh : ((s[k].toNat : Int) < 32 ∨ 126 < (s[k].toNat : Int)) ∨ inL s[k].toNat [37, 42, 34, 92] = true := by assumption
            have hf := Lib.hid (box_bad_all s (allS_false s k hlt (boxB_bad hh)))
            go_ret2
            exact ⟨⟨#[]⟩, ret_box hf.out.symm, (box_no hf.out).symm, Below.refl _ _⟩
          · have hh : 126 < (s[k].toNat : Int) := by assumption
            have hf := Lib.hid (box_bad_all s (allS_false s k hlt (boxB_high hh)))
            go_ret2
            exact ⟨⟨#[]⟩, ret_box hf.out.symm, (box_no hf.out).symm, Below.refl _ _⟩
          · have hh : (s[k].toNat : Int) < 32 := by assumption
            have hf := Lib.hid (box_bad_all s (allS_false s k hlt (boxB_low hh)))
            go_ret2
            exact ⟨⟨#[]⟩, ret_box hf.out.symm, (box_no hf.out).symm, Below.refl _ _⟩
        · obtain rfl : k = s.size := by omega
          rw [take_all] at hp
          have hk2 := Lib.hid (hg.out (allS_true s hpos hp.out))
          go_wp2_with fail
          refine (refUpperS_any s (by unfold maxLen; omega) w).mono ?_
          rintro e w1 ⟨u, rfl, hu, hbw⟩
          cases hn : (u.toList == [73, 78, 66, 79, 88])
          · go_wp2_with fail
            go_ret2
            exact ⟨_, ret_box hk2.out.symm, box_same hk2.out hu.out hn, hbw⟩
          · go_wp2_with fail
            go_ret2
            exact ⟨_, ret_box hk2.out.symm, box_inbox hk2.out hu.out hn, hbw⟩
    · have hf := Lib.hid (box_bad_len s hsz)
      go_enter Tryz.func52, Tryz.ntmps52
      go_wp2_with fail
      go_ret2
      exact ⟨⟨#[]⟩, ret_box hf.out.symm, (box_no hf.out).symm, Below.refl _ _⟩
  · have hf : Hid (boxOk s.data.toList = false) := box_bad_all s (by rw [List.eq_nil_of_length_eq_zero (l := s.data.toList) (by rw [← size_len]; omega)]; rfl)
    go_enter Tryz.func52, Tryz.ntmps52
    go_wp2_with fail
    go_ret2
    exact ⟨⟨#[]⟩, ret_box hf.out.symm, (box_no hf.out).symm, Below.refl _ _⟩
end Go.Proofs.YtcnebfmlelcliaaGreat
namespace Go.Proofs.YtcnebfmlelcliaaGreat
set_option linter.unusedSimpArgs false
open Go.RowKit
attribute [local go_sem ↓] Go.wp_at_zero Go.wp_at_succ

section
variable {α : Type} {R : RT α}
/-- elements are laid over others -/
theorem RT.PR.lay {W : World} {g : Nat} {l : List α} {rest : List Value} (h : R.PR W g l rest) (news : List α) (i : Nat) (hi : i + news.length ≤ l.length) : R.PR (W.setCells g (i * R.K) (R.cells news)) g (l.take i ++ news ++ l.drop (i + news.length)) rest := by
  have hll : i * R.K + news.length * R.K ≤ l.length * R.K := by rw [← Nat.add_mul]; exact Nat.mul_le_mul_right _ hi
  have hln : (R.cells news).length = news.length * R.K := R.cells_len _
  unfold RT.PR
  rw [heap_setCells _ _ _ _ h (by rw [hln, List.length_append, R.cells_len]; omega), hln]
  have e1 : R.cells l = R.cells (l.take i) ++ (R.cells ((l.drop i).take news.length) ++ R.cells (l.drop (i + news.length))) := by
    rw [← R.cells_app, ← R.cells_app, ← List.drop_drop, List.take_append_drop, List.take_append_drop]
  have e2 : (R.cells (l.take i)).length = i * R.K := by rw [R.cells_len, List.length_take]; congr 1; omega
  have e2b : (R.cells ((l.drop i).take news.length)).length = news.length * R.K := by rw [R.cells_len, List.length_take, List.length_drop]; congr 1; omega
  have e3 : (R.cells l ++ rest).take (i * R.K) = R.cells (l.take i) := by
    rw [e1, List.append_assoc, List.take_append_of_le_length (by rw [e2]; exact Nat.le_refl _), List.take_of_length_le (by rw [e2]; exact Nat.le_refl _)]
  have e4 : (R.cells l ++ rest).drop (i * R.K + news.length * R.K) = R.cells (l.drop (i + news.length)) ++ rest := by
    rw [e1, ← List.append_assoc, List.append_assoc, List.drop_left' (by rw [List.length_append, e2, e2b])]
  rw [e3, e4, R.cells_app, R.cells_app]
  simp only [List.append_assoc]
theorem Zoo.lay {W0 W : World} {L : List Th} {v : Value} {l : List α} (h : Zoo W0 W L) (i : Nat) (hi : L[i]? = some (R.row v l)) (news : List α) (k : Nat) (hk : k + news.length ≤ l.length) (hl : 0 < l.length) :
    ∃ g cap, v = .slice (some ⟨g, 0, none⟩) l.length cap ∧ l.length ≤ cap ∧ (∀ j r, (hj : j < l.length) → r < R.K → W.cell? ⟨g, j * R.K + r, none⟩ = (R.enc l[j])[r]?) ∧ (∀ j, W.frozen? ⟨g, j, none⟩ = false) ∧ Zoo W0 (W.setCells g (k * R.K) (R.cells news)) (L.set i (R.row v (l.take k ++ news ++ l.drop (k + news.length)))) := by
  obtain ⟨F, ⟨ho, hF⟩, hlow, hact⟩ := h.act i _ hi
  obtain ⟨g, cap, rest, rfl, hc, hg, hrow, hback⟩ := ho.row hl
  have hln : (l.take k ++ news ++ l.drop (k + news.length)).length = l.length := by simp only [List.length_append, List.length_take, List.length_drop]; omega
  have h2 := hback _ _ l.length (Nat.le_refl _) hln (hrow.lay news k hk)
  rw [List.take_of_length_le (by rw [hln]; exact Nat.le_refl _)] at h2
  have hkb : KeptB W g (W.setCells g (k * R.K) (R.cells news)) := KeptB.sets _ _ (KeptB.refl W g)
  exact ⟨g, cap, rfl, hc, fun j r hj hr => hrow.cell j r hj hr, hrow.free, hact _ F _ ⟨h2, hF⟩ (hkb.grows hF rfl)⟩
end
theorem del_take {α : Type} (l : List α) (i : Nat) (hi : i < l.length) : (l.take i ++ l.drop (i + 1) ++ l.drop (i + (l.drop (i + 1)).length)).take (i + (l.length - (i + 1))) = l.take i ++ l.drop (i + 1) :=
  List.take_left' (by rw [List.length_append, List.length_take, List.length_drop]; omega)
set_option maxRecDepth 100000 in
set_option maxHeartbeats 8000000 in
theorem boxDel_any {W0 W : World} {L : List Th} (v : Value) (l : List BxV) (i : Nat) (hi : i < l.length) (hlen : l.length ≤ 100000) (hz : Zoo W0 W (bxT.row v l :: L)) :
    Calls Tryz.prog 69 #[v, .int .i64 i, .int .i64 ((i : Int) + 1)] W fun e w' => ∃ v', e = .returned v' ∧ Hid (Zoo W0 w' (bxT.row v' (l.take i ++ l.drop (i + 1)) :: L)) := by
  have hdl : (l.drop (i + 1)).length = l.length - (i + 1) := List.length_drop
  obtain ⟨g, cap, rfl, hcap, hcell, hfr, hz1⟩ := hz.drew.lay 0 rfl (l.drop (i + 1)) i (by rw [hdl]; omega) (by omega)
  rw [show bxT.K = 5 from rfl] at hz1 hcell
  obtain ⟨i0, hi0, hz0, hz2, hz3⟩ := info_parts bxT.info
  have s1 : Hid ((bxT.cells (l.drop (i + 1))).length = (l.length - (i + 1)) * 5) := Lib.hid (by rw [bxT.cells_len, hdl]; rfl)
  obtain ⟨A, hA, hsrc⟩ : ∃ A : Addr, (if cap = i + 1 then some (⟨g, 0, none⟩ : Addr) else some ⟨g, (i + 1) * 5, none⟩) = some A ∧ Hid (∀ t u, (bxT.cells (l.drop (i + 1)))[t]? = some u → W.drew.cell? (A.add t) = some u) := by
    by_cases h : cap = i + 1
    · refine ⟨⟨g, 0, none⟩, by simp [h], Lib.hid (fun t u hu => ?_)⟩
      rw [List.drop_of_length_le (by omega)] at hu
      simp [RT.cells] at hu
    · refine ⟨⟨g, (i + 1) * 5, none⟩, by simp [h], Lib.hid (fun t u hu => ?_)⟩
      have ht : t < (l.length - (i + 1)) * 5 := by
        have := (List.getElem?_eq_some_iff.1 hu).1
        rwa [s1.out] at this
      obtain ⟨m, r, hr, rfl⟩ : ∃ m r, r < 5 ∧ t = m * 5 + r := ⟨t / 5, t % 5, Nat.mod_lt _ (by decide), by omega⟩
      have hm : m < (l.drop (i + 1)).length := by rw [hdl]; omega
      have h1 := bxT.cells_get (l.drop (i + 1)) m hm r hr
      rw [show bxT.K = 5 from rfl] at h1
      rw [h1, List.getElem_drop] at hu
      rw [Addr.add_lit, show (i + 1) * 5 + (m * 5 + r) = (i + 1 + m) * 5 + r from by omega, hcell (i + 1 + m) r (by rw [hdl] at hm; omega) hr]
      exact hu
  have s2 : Hid (∀ u ∈ bxT.cells (l.drop (i + 1)), u.oneCell' = true) := Lib.hid (bxT.cells_one _)
  have s3 : Hid (∀ t, t < (bxT.cells (l.drop (i + 1))).length → (W.drew.cell? ⟨g, 0 + i * 5 + t, none⟩).isSome = true ∧ W.drew.frozen? ⟨g, 0 + i * 5 + t, none⟩ = false) := Lib.hid (fun t ht => by
    rw [s1.out] at ht
    refine ⟨?_, hfr _⟩
    obtain ⟨m, r, hr, rfl⟩ : ∃ m r, r < 5 ∧ t = m * 5 + r := ⟨t / 5, t % 5, Nat.mod_lt _ (by decide), by omega⟩
    have h1 := hcell (i + m) r (by omega) hr
    rw [show 0 + i * 5 + (m * 5 + r) = (i + m) * 5 + r from by omega, h1, List.getElem?_eq_getElem (by rw [bxT.len]; exact hr)]; rfl)
  have hlay : (l.take i ++ l.drop (i + 1) ++ l.drop (i + (l.drop (i + 1)).length)).length = l.length := by simp only [List.length_append, List.length_take, List.length_drop]; omega
  obtain ⟨W1, hW1⟩ : ∃ W1, W.drew.setCells g (i * 5) (bxT.cells (l.drop (i + 1))) = W1 := ⟨_, rfl⟩
  rw [hW1] at hz1
  obtain ⟨g2, cap2, hv, -, hcl, hz4⟩ := hz1.clear 0 rfl (⟨⟨#[]⟩, 0, 0, 0, [], none, 0⟩ : BxV) rfl (i + (l.length - (i + 1))) (l.length - (i + (l.length - (i + 1)))) (by omega) (by show _ = List.length _; rw [hlay]; omega)
  rw [show bxT.K = 5 from rfl] at hz4 hcl
  injection hv with e1 e2 e3
  injection e1 with e1
  injection e1 with e1
  subst e1 e3
  rw [del_take l i hi] at hz4
  have hW : Hid (W1 = W.drew.setCells g (0 + i * 5) (bxT.cells (l.drop (i + 1)))) := Lib.hid (by rw [Nat.zero_add]; exact hW1.symm)
  have hcl2 := fun ty => hcl (cap - (i + (l.length - (i + 1)))) ty
  generalize W1.setCells g ((i + (l.length - (i + 1))) * 5) (bxT.cells (List.replicate (l.length - (i + (l.length - (i + 1)))) (⟨⟨#[]⟩, 0, 0, 0, [], none, 0⟩ : BxV))) = W2 at hcl2 hz4
  replace hz4 := Lib.hid hz4
  replace hcl2 : ∀ ty, (Builtin.clear_ #[22] ty #[.slice (some ⟨g, (i + (l.length - (i + 1))) * 5, none⟩) (l.length - (i + (l.length - (i + 1)))) (cap - (i + (l.length - (i + 1))))]).run Tryz.prog W1 = .ok (.tuple #[]) W2 := hcl2
  have hic : i ≤ cap := by omega
  have hjc : i + 1 ≤ cap := by omega
  have mixed : Tryz.prog.follows Departure.mixedOrders = true := by kernel_rfl
  have b1 : (0 : Int) ≤ (i : Int) + 1 := by omega
  have b2 : (i : Int) + 1 ≤ (l.length : Int) := by omega
  clear hz hz1 hcell hfr hlay hcl hW1 hdl hz0 hz3 e2
  generalize bxT.cells (l.drop (i + 1)) = news at *
  go_enter Tryz.func69, Tryz.ntmps69
  go_wp2_with fail
  go_region_law_o (refine step_append_room rfl (.tmp 22) (.tmp 25) 22 rfl 33 i0 5 Tryz.underlying22 hi0 hz2 g 0 i cap (by simp [Act.eval, Act.put]) A (l.length - (i + 1)) (cap - (i + 1)) news (by simp [Act.eval, Act.put]) s1.out hsrc.out s2.out (by omega) s3.out ?_; rw [← hW.out])
  go_wp2_with fail
  go_ret
  exact ⟨_, rfl, hz4⟩
def atM (name : ByteArray) (m : Ml) : Int := idxI (fun x => x.name.toList == name.toList) m.boxes
theorem idxI_map {α β : Type} (f : α → β) (p : β → Bool) (l : List α) : idxI p (l.map f) = idxI (fun x => p (f x)) l := by
  unfold idxI
  rw [List.findIdx?_map]; rfl
theorem atB_M {name : ByteArray} {k : WkV} {m : Ml} (h : WkOk k m) : atB name k.bs = atM name m := by
  unfold atB atM
  rw [← h.1, idxI_map]; rfl
theorem WkOk.len {k : WkV} {m : Ml} (h : WkOk k m) : k.bs.length = m.boxes.length := by rw [← h.1, List.length_map]
theorem work_boxes {W0 W : World} {wb : Nat} {k : WkV} {m : Ml} {q : Rq} {y : RqV} {o : Oc} (hz : Zoo W0 W (workL wb k m q y o)) : Rd W (.slice k.ab k.bs.length k.cb) k.bs.length (bxT.cells k.bs) := (hz.own 3 rfl).rd
/-- 'at(w.s, name)' in whatever world holds the work -/
theorem workAt {W0 W : World} {wb : Nat} {k : WkV} {m : Ml} {q : Rq} {y : RqV} {o : Oc} (hz : Zoo W0 W (workL wb k m q y o)) (hk : WkOk k m) (hl : m.boxes.length ≤ 1000) (name : ByteArray) :
    Calls Tryz.prog 33 #[.agg #[.slice k.ab k.bs.length k.cb, .int .u64 m.nv, .slice k.ah m.homes.length k.ch, .slice k.as_ m.seats.length k.cs, .int .u64 m.ns, .int .u64 m.sweeps], .string name] W (IntBelow W (atM name m)) := by
  have := at_any k.ab k.ah k.as_ k.cb m.homes.length k.ch m.seats.length k.cs m.nv m.ns m.sweeps k.bs name (work_boxes hz) (by rw [hk.len]; omega)
  rw [atB_M hk] at this
  exact this
theorem Zoo.lets {W0 W : World} {a b c d e f g : Th} {l l' : List Th} (h : Zoo W0 W (a :: b :: c :: d :: e :: f :: g :: l)) (hs : l'.Sublist l) : Zoo W0 W (a :: b :: c :: d :: e :: f :: g :: l') :=
  h.sub (((((((hs.cons_cons g).cons_cons f).cons_cons e).cons_cons d).cons_cons c).cons_cons b).cons_cons a)
theorem findIdx_cases {α : Type} (p : α → Bool) (l : List α) : (l.findIdx? p = none ∧ idxI p l = -1) ∨ ∃ (i : Nat) (_ : i < l.length), l.findIdx? p = some i ∧ idxI p l = (i : Int) := by
  unfold idxI
  cases h : l.findIdx? p with
  | none => exact .inl ⟨rfl, rfl⟩
  | some i => exact .inr ⟨i, (List.findIdx?_eq_some_iff_getElem.1 h).1, rfl, rfl⟩
def removeM (m : Ml) (q : Rq) (o : Oc) : Int × Ml × Oc :=
  if q.box.toList == inboxL then (1, m, o) else match m.boxes.findIdx? (fun x => x.name.toList == q.box.toList) with
  | none => (6, m, o)
  | some i => (0, { m with boxes := m.boxes.take i ++ m.boxes.drop (i + 1) }, o)
set_option maxRecDepth 100000 in
set_option maxHeartbeats 8000000 in
theorem remove_any {W0 W : World} {wb : Nat} {k : WkV} {m : Ml} {q : Rq} {y : RqV} {o : Oc} (hz : Zoo W0 W (workL wb k m q y o)) (hk : WkOk k m) (hl : m.boxes.length ≤ 1000) :
    Calls Tryz.prog 39 #[.pointer (some ⟨wb, 0, none⟩)] W (WkRet W0 wb q y (removeM m q o)) := by
  have hat := Lib.hid (workAt hz.drew hk hl q.box)
  obtain ⟨hbx, -⟩ := hz.drew.box 0 rfl
  have k0 : W.drew.cell? ⟨wb, 0, none⟩ = some (.slice k.ab k.bs.length k.cb) := box_cell hbx 0
  have k1 : W.drew.cell? ⟨wb, 1, none⟩ = some (.int .u64 m.nv) := box_cell hbx 1
  have k2 : W.drew.cell? ⟨wb, 2, none⟩ = some (.slice k.ah m.homes.length k.ch) := box_cell hbx 2
  have k3 : W.drew.cell? ⟨wb, 3, none⟩ = some (.slice k.as_ m.seats.length k.cs) := box_cell hbx 3
  have k4 : W.drew.cell? ⟨wb, 4, none⟩ = some (.int .u64 m.ns) := box_cell hbx 4
  have k5 : W.drew.cell? ⟨wb, 5, none⟩ = some (.int .u64 m.sweeps) := box_cell hbx 5
  have k12 : W.drew.cell? ⟨wb, 12, none⟩ = some (.string q.box) := box_cell hbx 12
  replace hk := Lib.hid hk
  replace hz := Lib.hid hz.drew
  clear hbx
  go_enter Tryz.func39, Tryz.ntmps39
  go_wp2_with fail
  refine wp_region_hd (fun w' => w'.cell? ⟨wb, 0, none⟩ = some (.slice k.ab k.bs.length k.cb) ∧ w'.cell? ⟨wb, 1, none⟩ = some (.int .u64 m.nv) ∧ w'.cell? ⟨wb, 2, none⟩ = some (.slice k.ah m.homes.length k.ch) ∧ w'.cell? ⟨wb, 3, none⟩ = some (.slice k.as_ m.seats.length k.cs) ∧ w'.cell? ⟨wb, 4, none⟩ = some (.int .u64 m.ns) ∧ w'.cell? ⟨wb, 5, none⟩ = some (.int .u64 m.sweeps) ∧ w'.cell? ⟨wb, 12, none⟩ = some (.string q.box)) 10 1 (by kernel_rfl) rfl ⟨by kernel_rfl, by kernel_rfl, by kernel_rfl, by decide⟩ ⟨k0, k1, k2, k3, k4, k5, k12⟩ (fun hok hS0 => ?_)
  refine Hd.take (i := 0) (v := ?tv25) hok rfl (by kernel_rfl) (fun _ _ _ h => h) (Or.inl ⟨by rfl, ?ty25⟩) (by assumption) ?tr25
  case ty25 => (intro w hSw; (try dsimp only at hSw); go_simp; (try with_reducible rfl))
  try simp only [List.getElem_toArray, List.getElem_cons_succ, List.getElem_cons_zero, Act.put, List.setIfInBounds_toArray, List.set_cons_zero, List.set_cons_succ]
  refine Hd.take (i := 1) (v := ?tv26) hok rfl (by kernel_rfl) (fun _ _ _ h => h) (Or.inl ⟨by rfl, ?ty26⟩) (by assumption) ?tr26
  case ty26 => (intro w hSw; (try dsimp only at hSw); go_simp; (try with_reducible rfl))
  try simp only [List.getElem_toArray, List.getElem_cons_succ, List.getElem_cons_zero, Act.put, List.setIfInBounds_toArray, List.set_cons_zero, List.set_cons_succ]
  refine Hd.take (i := 2) (v := ?tv27) hok rfl (by kernel_rfl) (fun _ _ _ h => h) (Or.inl ⟨by rfl, ?ty27⟩) (by assumption) ?tr27
  case ty27 => (intro w hSw; (try dsimp only at hSw); go_simp; (try with_reducible rfl))
  try simp only [List.getElem_toArray, List.getElem_cons_succ, List.getElem_cons_zero, Act.put, List.setIfInBounds_toArray, List.set_cons_zero, List.set_cons_succ]
  refine Hd.take (i := 3) (v := ?tv28) hok rfl (by kernel_rfl) (fun _ _ _ h => h) (Or.inl ⟨by rfl, ?ty28⟩) (by assumption) ?tr28
  case ty28 => (intro w hSw; (try dsimp only at hSw); go_simp; (try with_reducible rfl))
  try simp only [List.getElem_toArray, List.getElem_cons_succ, List.getElem_cons_zero, Act.put, List.setIfInBounds_toArray, List.set_cons_zero, List.set_cons_succ]
  refine Hd.take (i := 4) (v := ?tv29) hok rfl (by kernel_rfl) (fun _ _ _ h => h) (Or.inl ⟨by rfl, ?ty29⟩) (by assumption) ?tr29
  case ty29 => (intro w hSw; (try dsimp only at hSw); go_simp; (try with_reducible rfl))
  try simp only [List.getElem_toArray, List.getElem_cons_succ, List.getElem_cons_zero, Act.put, List.setIfInBounds_toArray, List.set_cons_zero, List.set_cons_succ]
  refine Hd.take (i := 5) (v := ?tv30) hok rfl (by kernel_rfl) (fun _ _ _ h => h) (Or.inl ⟨by rfl, ?ty30⟩) (by assumption) ?tr30
  case ty30 => (intro w hSw; (try dsimp only at hSw); go_simp; (try with_reducible rfl))
  try simp only [List.getElem_toArray, List.getElem_cons_succ, List.getElem_cons_zero, Act.put, List.setIfInBounds_toArray, List.set_cons_zero, List.set_cons_succ]
  refine Hd.take (i := 6) (v := ?tv31) hok rfl (by kernel_rfl) (fun _ _ _ h => h) (Or.inl ⟨by rfl, ?ty31⟩) (by assumption) ?tr31
  case ty31 => (intro w hSw; (try dsimp only at hSw); go_simp; (try with_reducible rfl))
  try simp only [List.getElem_toArray, List.getElem_cons_succ, List.getElem_cons_zero, Act.put, List.setIfInBounds_toArray, List.set_cons_zero, List.set_cons_succ]
  refine Hd.take (i := 7) (v := ?tv32) hok rfl (by kernel_rfl) (fun _ _ _ h => h) (Or.inl ⟨by rfl, ?ty32⟩) (by assumption) ?tr32
  case ty32 => (intro w hSw; (try dsimp only at hSw); go_simp; (try with_reducible rfl))
  try simp only [List.getElem_toArray, List.getElem_cons_succ, List.getElem_cons_zero, Act.put, List.setIfInBounds_toArray, List.set_cons_zero, List.set_cons_succ]
  refine Hd.take (i := 8) (v := ?tv33) hok rfl (by kernel_rfl) (fun _ _ _ h => h) (Or.inl ⟨by rfl, ?ty33⟩) (by assumption) ?tr33
  case ty33 => (intro w hSw; (try dsimp only at hSw); go_simp; (try with_reducible rfl))
  try simp only [List.getElem_toArray, List.getElem_cons_succ, List.getElem_cons_zero, Act.put, List.setIfInBounds_toArray, List.set_cons_zero, List.set_cons_succ]
  refine Hd.one (i := 9) rfl (by kernel_rfl) (fun K hK => ?_)
  go_simp
  refine hat.out.mono ?_
  rintro e w3 ⟨rfl, hb3⟩
  dsimp only
  have hz3 := hz.out.below hb3.out
  obtain ⟨hbx, -⟩ := hz3.box 0 rfl
  clear k0 k1 k2 k3 k4 k5 k12
  have k0 : w3.cell? ⟨wb, 0, none⟩ = some (.slice k.ab k.bs.length k.cb) := box_cell hbx 0
  have k1 : w3.cell? ⟨wb, 1, none⟩ = some (.int .u64 m.nv) := box_cell hbx 1
  have k2 : w3.cell? ⟨wb, 2, none⟩ = some (.slice k.ah m.homes.length k.ch) := box_cell hbx 2
  have k3 : w3.cell? ⟨wb, 3, none⟩ = some (.slice k.as_ m.seats.length k.cs) := box_cell hbx 3
  have k4 : w3.cell? ⟨wb, 4, none⟩ = some (.int .u64 m.ns) := box_cell hbx 4
  have k5 : w3.cell? ⟨wb, 5, none⟩ = some (.int .u64 m.sweeps) := box_cell hbx 5
  have k12 : w3.cell? ⟨wb, 12, none⟩ = some (.string q.box) := box_cell hbx 12
  refine hK _ _ ⟨k0, k1, k2, k3, k4, k5, k12⟩ ?_
  clear hK K
  try simp only [List.getElem_toArray, List.getElem_cons_succ, List.getElem_cons_zero, Act.put, List.setIfInBounds_toArray, List.set_cons_zero, List.set_cons_succ]
  refine Hd.done (by kernel_rfl) ?_
  simp only [List.drop_succ_cons, List.drop_zero]
  clear hat hz hok hS0 hb3 k1 k2 k3 k4 k5
  cases hin : (q.box.toList == [73, 78, 66, 79, 88]) with
  | true =>
    have hr : Hid (removeM m q o = (1, m, o)) := Lib.hid (by unfold removeM inboxL; rw [hin, if_pos rfl])
    replace hz3 := Lib.hid hz3
    clear hbx
    go_wp2_with fail
    go_ret
    exact WkRet.of hr.out ⟨k, rfl, hk, hz3⟩
  | false =>
    unfold atM
    rcases findIdx_cases (fun x : Bx => x.name.toList == q.box.toList) m.boxes with ⟨e1, e2⟩ | ⟨i, hi, e1, e2⟩
    · rw [e2]
      have hr : Hid (removeM m q o = (6, m, o)) := Lib.hid (by unfold removeM inboxL; rw [hin, e1]; rfl)
      replace hz3 := Lib.hid hz3
      clear hbx e2 e1
      go_wp2_with fail
      go_ret
      exact WkRet.of hr.out ⟨k, rfl, hk, hz3⟩
    · rw [e2]
      have hr : Hid (removeM m q o = (0, { m with boxes := m.boxes.take i ++ m.boxes.drop (i + 1) }, o)) := Lib.hid (by unfold removeM inboxL; rw [hin, e1]; rfl)
      have hil : i < k.bs.length := by rw [hk.out.len]; exact hi
      have hdel := Lib.hid (boxDel_any (.slice k.ab k.bs.length k.cb) k.bs i hil (by rw [hk.out.len]; omega) (hz3.front 3 rfl))
      replace hz3 := Lib.hid hz3
      have hi0 : (0 : Int) ≤ (i : Int) := by omega
      clear hbx e2 e1
      go_wp2_with fail
      refine hdel.out.mono ?_
      rintro e w4 ⟨v4, rfl, hz4⟩
      obtain ⟨a4, c4, hv4⟩ := (hz4.out.own 0 rfl).len
      subst hv4
      have hz5 := Zoo.back (L := workL wb k m q y o) 3 (by show 3 < _ + 7; omega) hz4.out
      obtain ⟨hbx, -⟩ := hz5.box 0 rfl
      have k0 : w4.cell? ⟨wb, 0, none⟩ = some (.slice k.ab k.bs.length k.cb) := box_cell hbx 0
      have f0 := box_free hbx 0
      have hz6 := hz5.setBox 0 rfl 0 (.slice a4 (k.bs.take i ++ k.bs.drop (i + 1)).length c4)
      have hk2 : Hid (WkOk { k with ab := a4, cb := c4, bs := k.bs.take i ++ k.bs.drop (i + 1) } { m with boxes := m.boxes.take i ++ m.boxes.drop (i + 1) }) := Lib.hid (by
        refine ⟨?_, fun z hz => ?_⟩
        · show (k.bs.take i ++ k.bs.drop (i + 1)).map BxV.b = _
          rw [List.map_append, List.map_take, List.map_drop, hk.out.1]
        · rcases List.mem_append.1 hz with h | h
          · exact hk.out.2 z (List.mem_of_mem_take h)
          · exact hk.out.2 z (List.mem_of_mem_drop h))
      replace hz6 : Hid (Zoo W0 (w4.setCell ⟨wb, 0, none⟩ (.slice a4 (k.bs.take i ++ k.bs.drop (i + 1)).length c4)) (workL wb { k with ab := a4, cb := c4, bs := k.bs.take i ++ k.bs.drop (i + 1) } { m with boxes := m.boxes.take i ++ m.boxes.drop (i + 1) } q y o)) := Lib.hid (Zoo.lets hz6 (by
        show ((k.bs.take i ++ k.bs.drop (i + 1)).map fun y => ltT.row y.v y.rows).Sublist (k.bs.map fun y => ltT.row y.v y.rows)
        refine List.Sublist.map _ ?_
        rw [← List.eraseIdx_eq_take_drop_succ]
        exact List.eraseIdx_sublist _ _))
      generalize (k.bs.take i ++ k.bs.drop (i + 1)).length = n at *
      clear hz4 hz5 hbx
      go_wp2_with fail
      go_ret
      exact WkRet.of hr.out ⟨_, rfl, hk2, hz6⟩
end Go.Proofs.YtcnebfmlelcliaaGreat
