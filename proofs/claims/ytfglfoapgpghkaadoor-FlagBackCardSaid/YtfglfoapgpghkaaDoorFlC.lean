/- Canon, of the program and of the document: a flag as it is kept. -/
import Derived.Test.YtfglfoapgpghkaaDoorFlB
namespace Go.Proofs.YtfglfoapgpghkaaDoor
open Go.RowKit

/-- e returns a text whose bytes are l; of what was there nothing has turned -/
def RetStr (l : List UInt8) (w : World) (e : Ending) (w' : World) : Prop := ∃ u : ByteArray, e = .returned (.string u) ∧ Hid (u.data.toList = l) ∧ Below w.heap.size w w'
theorem upperS_any (s : ByteArray) (hs : s.size ≤ maxLen) (w : World) : Calls Tryd.prog 25 #[.string s] w (RetStr (upL s.data.toList) w) :=
  (upper_any s hs w).mono fun _ _ ⟨he, hb⟩ => ⟨_, he, rfl, hb⟩
theorem refUpperS_any (s : ByteArray) (hs : s.size ≤ maxLen) (w : World) : Calls Tryd.prog 39 #[.string s] w (RetStr (upL s.data.toList) w) :=
  (refUpper_any s hs w).mono fun _ _ ⟨he, hb⟩ => ⟨_, he, rfl, hb⟩
def CanonRet (s : List UInt8) (w : World) (e : Ending) (w' : World) : Prop := ∃ (u : ByteArray) (ok : Bool), e = .returned (.tuple #[.string u, .bool ok]) ∧ Hid (canonL s = (if ok then some u.data.toList else none) ∧ (ok = false → u = ⟨#[]⟩)) ∧ Hid (Below w.heap.size w w')
theorem canon_yes {s : List UInt8} {w w' : World} {u : ByteArray} (h : canonL s = some u.data.toList) (hb : Below w.heap.size w w') : CanonRet s w (.returned (.tuple #[.string u, .bool true])) w' := ⟨u, true, rfl, Lib.hid ⟨h, fun h => by cases h⟩, Lib.hid hb⟩
theorem canon_no {s : List UInt8} {w w' : World} (h : canonL s = none) (hb : Below w.heap.size w w') : CanonRet s w (.returned (.tuple #[.string ⟨#[]⟩, .bool false])) w' := ⟨⟨#[]⟩, false, rfl, Lib.hid ⟨h, fun _ => rfl⟩, Lib.hid hb⟩
def isSys (s : List UInt8) (j : Nat) : Bool := upL (sysL.getD j []) == upL s
theorem canon_sys (s : List UInt8) (k : Nat) (hk : k < 5) (h1 : ∀ j, j < k → isSys s j = false) (h2 : isSys s k = true) : canonL s = some (sysL.getD k []) := by
  have hf : sysL.find? (fun f => upL f == upL s) = some (sysL.getD k []) := by
    have e : ∀ (l : List (List UInt8)) (k : Nat), k < l.length → (∀ j, j < k → (upL (l.getD j []) == upL s) = false) → (upL (l.getD k []) == upL s) = true → l.find? (fun f => upL f == upL s) = some (l.getD k []) := by
      intro l
      induction l with
      | nil => intro k hk; simp at hk
      | cons x r ih =>
        intro k hk h1 h2
        match k, hk, h1, h2 with
        | 0, _, _, h2 => rw [List.find?_cons, show (upL x == upL s) = true from h2]; rfl
        | k + 1, hk, h1, h2 =>
          rw [List.find?_cons, show (upL x == upL s) = false from h1 0 (by omega)]
          exact ih k (by simpa using hk) (fun j hj => h1 (j + 1) (by omega)) h2
    exact e sysL k hk h1 h2
  rw [canonL, hf]
theorem canon_key (s : List UInt8) (h1 : ∀ j, j < 5 → isSys s j = false) : canonL s = if keyB s then some (lowL s) else none := by
  have hf : sysL.find? (fun f => upL f == upL s) = none := by
    rw [List.find?_eq_none]
    intro x hx
    obtain ⟨j, hj, rfl⟩ := List.getElem_of_mem hx
    have := h1 j hj
    rw [isSys, List.getD, List.getElem?_eq_getElem hj] at this
    simpa using this
  rw [canonL, hf]
theorem eqS_of {u v : ByteArray} {l m : List UInt8} (hu : Hid (u.data.toList = l)) (hv : Hid (v.data.toList = m)) : (u.toList == v.toList) = (l == m) := by rw [eq_str, hu.out, hv.out]
theorem run_index_sys (k : Nat) (hk : k < 5) (w : World) : (Instr.index 45 sysV (.int .i64 k)).run Tryd.prog w = .ok (.string (mkB (sysL.getD k []))) w := by
  have hu : ∀ w, (underlying 45).run Tryd.prog w = .ok (.array 5 9) w := run_underlying Tryd.underlying45
  have hz : ∀ w, (Go.sizeOf 9).run Tryd.prog w = .ok 1 w := Tryd.sizeOf9
  have ha : ∀ w, (isAgg 9).run Tryd.prog w = .ok false w := Tryd.isAgg9
  unfold Instr.index sysV
  match k, hk with
  | 0, _ => simp [asIntOf, hu, hz, part, ha, sysL, mkB]
  | 1, _ => simp [asIntOf, hu, hz, part, ha, sysL, mkB]
  | 2, _ => simp [asIntOf, hu, hz, part, ha, sysL, mkB]
  | 3, _ => simp [asIntOf, hu, hz, part, ha, sysL, mkB]
  | 4, _ => simp [asIntOf, hu, hz, part, ha, sysL, mkB]
theorem sys_le (k : Nat) (hk : k < 5) : (mkB (sysL.getD k [])).size ≤ maxLen := by
  have h : (mkB (sysL.getD k [])).size ≤ 9 := by
    match k, hk with
    | 0, _ => exact Nat.le_of_ble_eq_true rfl
    | 1, _ => exact Nat.le_of_ble_eq_true rfl
    | 2, _ => exact Nat.le_of_ble_eq_true rfl
    | 3, _ => exact Nat.le_of_ble_eq_true rfl
    | 4, _ => exact Nat.le_of_ble_eq_true rfl
  unfold maxLen; omega
set_option maxRecDepth 100000 in
set_option maxHeartbeats 2000000 in
theorem canon_any (s : ByteArray) (hs0 : s.size ≤ maxLen) (w : World) : Calls Tryd.prog 16 #[.string s] w (CanonRet s.data.toList w) := by
  have hs9 := Lib.hid hs0
  clear hs0
  go_enter Tryd.func16, Tryd.ntmps16
  go_wp2_with fail
  refine (system_any w).mono ?_
  rintro e w1 ⟨rfl, l1⟩
  have b1 := Lib.hid l1.below
  clear l1
  unfold sysV
  go_wp2_with fail
  go_loopw [7] (fun vk wr => ∃ k : Nat, vk = .int .i64 k ∧ k ≤ 5 ∧ Hid (∀ j, j < k → isSys s.data.toList j = false) ∧ Hid (Below w.heap.size w wr)) (fun vk _ => 5 - (intOf vk).toNat)
  case atStart => exact ⟨0, rfl, by omega, Lib.hid (fun j h => absurd h (Nat.not_lt_zero _)), b1⟩
  case round =>
    obtain ⟨k, rfl, hk, hno, hb⟩ := hrel
    have h5 : k = 0 ∨ k = 1 ∨ k = 2 ∨ k = 3 ∨ k = 4 ∨ k = 5 := by omega
    clear hk
    rcases h5 with rfl | rfl | rfl | rfl | rfl | rfl
    · have hix := run_index_sys 0 (by omega) wr
      unfold sysV at hix
      rw [show ((0 : Nat) : Int) = (0 : Int) from rfl] at hix ⊢
      go_wp2_with fail
      refine (upperS_any (mkB (sysL.getD 0 [])) (sys_le 0 (by omega)) wr).mono ?_
      rintro e w2 ⟨U1, rfl, hU1, hb1⟩
      go_wp2_with fail
      refine (upperS_any s hs9.out w2).mono ?_
      rintro e w3 ⟨U2, rfl, hU2, hb2⟩
      have hq := eqS_of hU1 hU2
      have hq' : (U1.toList == U2.toList) = isSys s.data.toList 0 := hq
      have hb3 := Lib.hid ((hb.out.trans (hb1.mono hb.out.size)).trans (hb2.mono (Nat.le_trans hb.out.size hb1.size)))
      clear hb1 hb2 hU1 hU2 hq
      cases h : isSys s.data.toList 0
      · rw [h] at hq'
        have hno' : Hid (∀ j, j < 0 + 1 → isSys s.data.toList j = false) := Lib.hid (fun j hj => by
          rcases Nat.lt_or_ge j 0 with h1 | h1
          · exact hno.out j h1
          · obtain rfl : j = 0 := by omega
            exact h)
        replace h := Lib.hid h
        go_wp2_with fail
        go_roundw
        case rel => exact ⟨0 + 1, by go_num, by omega, hno', hb3⟩
        case measure => simp [intOf]
      · rw [h] at hq'
        have hc := Lib.hid (canon_sys s.data.toList 0 (by omega) hno.out h)
        replace h := Lib.hid h
        go_wp2_with fail
        go_ret2
        exact canon_yes hc.out hb3.out
    · have hix := run_index_sys 1 (by omega) wr
      unfold sysV at hix
      rw [show ((1 : Nat) : Int) = (1 : Int) from rfl] at hix ⊢
      go_wp2_with fail
      refine (upperS_any (mkB (sysL.getD 1 [])) (sys_le 1 (by omega)) wr).mono ?_
      rintro e w2 ⟨U1, rfl, hU1, hb1⟩
      go_wp2_with fail
      refine (upperS_any s hs9.out w2).mono ?_
      rintro e w3 ⟨U2, rfl, hU2, hb2⟩
      have hq := eqS_of hU1 hU2
      have hq' : (U1.toList == U2.toList) = isSys s.data.toList 1 := hq
      have hb3 := Lib.hid ((hb.out.trans (hb1.mono hb.out.size)).trans (hb2.mono (Nat.le_trans hb.out.size hb1.size)))
      clear hb1 hb2 hU1 hU2 hq
      cases h : isSys s.data.toList 1
      · rw [h] at hq'
        have hno' : Hid (∀ j, j < 1 + 1 → isSys s.data.toList j = false) := Lib.hid (fun j hj => by
          rcases Nat.lt_or_ge j 1 with h1 | h1
          · exact hno.out j h1
          · obtain rfl : j = 1 := by omega
            exact h)
        replace h := Lib.hid h
        go_wp2_with fail
        go_roundw
        case rel => exact ⟨1 + 1, by go_num, by omega, hno', hb3⟩
        case measure => simp [intOf]
      · rw [h] at hq'
        have hc := Lib.hid (canon_sys s.data.toList 1 (by omega) hno.out h)
        replace h := Lib.hid h
        go_wp2_with fail
        go_ret2
        exact canon_yes hc.out hb3.out
    · have hix := run_index_sys 2 (by omega) wr
      unfold sysV at hix
      rw [show ((2 : Nat) : Int) = (2 : Int) from rfl] at hix ⊢
      go_wp2_with fail
      refine (upperS_any (mkB (sysL.getD 2 [])) (sys_le 2 (by omega)) wr).mono ?_
      rintro e w2 ⟨U1, rfl, hU1, hb1⟩
      go_wp2_with fail
      refine (upperS_any s hs9.out w2).mono ?_
      rintro e w3 ⟨U2, rfl, hU2, hb2⟩
      have hq := eqS_of hU1 hU2
      have hq' : (U1.toList == U2.toList) = isSys s.data.toList 2 := hq
      have hb3 := Lib.hid ((hb.out.trans (hb1.mono hb.out.size)).trans (hb2.mono (Nat.le_trans hb.out.size hb1.size)))
      clear hb1 hb2 hU1 hU2 hq
      cases h : isSys s.data.toList 2
      · rw [h] at hq'
        have hno' : Hid (∀ j, j < 2 + 1 → isSys s.data.toList j = false) := Lib.hid (fun j hj => by
          rcases Nat.lt_or_ge j 2 with h1 | h1
          · exact hno.out j h1
          · obtain rfl : j = 2 := by omega
            exact h)
        replace h := Lib.hid h
        go_wp2_with fail
        go_roundw
        case rel => exact ⟨2 + 1, by go_num, by omega, hno', hb3⟩
        case measure => simp [intOf]
      · rw [h] at hq'
        have hc := Lib.hid (canon_sys s.data.toList 2 (by omega) hno.out h)
        replace h := Lib.hid h
        go_wp2_with fail
        go_ret2
        exact canon_yes hc.out hb3.out
    · have hix := run_index_sys 3 (by omega) wr
      unfold sysV at hix
      rw [show ((3 : Nat) : Int) = (3 : Int) from rfl] at hix ⊢
      go_wp2_with fail
      refine (upperS_any (mkB (sysL.getD 3 [])) (sys_le 3 (by omega)) wr).mono ?_
      rintro e w2 ⟨U1, rfl, hU1, hb1⟩
      go_wp2_with fail
      refine (upperS_any s hs9.out w2).mono ?_
      rintro e w3 ⟨U2, rfl, hU2, hb2⟩
      have hq := eqS_of hU1 hU2
      have hq' : (U1.toList == U2.toList) = isSys s.data.toList 3 := hq
      have hb3 := Lib.hid ((hb.out.trans (hb1.mono hb.out.size)).trans (hb2.mono (Nat.le_trans hb.out.size hb1.size)))
      clear hb1 hb2 hU1 hU2 hq
      cases h : isSys s.data.toList 3
      · rw [h] at hq'
        have hno' : Hid (∀ j, j < 3 + 1 → isSys s.data.toList j = false) := Lib.hid (fun j hj => by
          rcases Nat.lt_or_ge j 3 with h1 | h1
          · exact hno.out j h1
          · obtain rfl : j = 3 := by omega
            exact h)
        replace h := Lib.hid h
        go_wp2_with fail
        go_roundw
        case rel => exact ⟨3 + 1, by go_num, by omega, hno', hb3⟩
        case measure => simp [intOf]
      · rw [h] at hq'
        have hc := Lib.hid (canon_sys s.data.toList 3 (by omega) hno.out h)
        replace h := Lib.hid h
        go_wp2_with fail
        go_ret2
        exact canon_yes hc.out hb3.out
    · have hix := run_index_sys 4 (by omega) wr
      unfold sysV at hix
      rw [show ((4 : Nat) : Int) = (4 : Int) from rfl] at hix ⊢
      go_wp2_with fail
      refine (upperS_any (mkB (sysL.getD 4 [])) (sys_le 4 (by omega)) wr).mono ?_
      rintro e w2 ⟨U1, rfl, hU1, hb1⟩
      go_wp2_with fail
      refine (upperS_any s hs9.out w2).mono ?_
      rintro e w3 ⟨U2, rfl, hU2, hb2⟩
      have hq := eqS_of hU1 hU2
      have hq' : (U1.toList == U2.toList) = isSys s.data.toList 4 := hq
      have hb3 := Lib.hid ((hb.out.trans (hb1.mono hb.out.size)).trans (hb2.mono (Nat.le_trans hb.out.size hb1.size)))
      clear hb1 hb2 hU1 hU2 hq
      cases h : isSys s.data.toList 4
      · rw [h] at hq'
        have hno' : Hid (∀ j, j < 4 + 1 → isSys s.data.toList j = false) := Lib.hid (fun j hj => by
          rcases Nat.lt_or_ge j 4 with h1 | h1
          · exact hno.out j h1
          · obtain rfl : j = 4 := by omega
            exact h)
        replace h := Lib.hid h
        go_wp2_with fail
        go_roundw
        case rel => exact ⟨4 + 1, by go_num, by omega, hno', hb3⟩
        case measure => simp [intOf]
      · rw [h] at hq'
        have hc := Lib.hid (canon_sys s.data.toList 4 (by omega) hno.out h)
        replace h := Lib.hid h
        go_wp2_with fail
        go_ret2
        exact canon_yes hc.out hb3.out
    · rw [show ((5 : Nat) : Int) = (5 : Int) from rfl]
      go_wp2_with fail
      refine (atom_any s hs9.out wr).mono ?_
      rintro e w2 ⟨rfl, rfl⟩
      have hck := Lib.hid (canon_key s.data.toList hno.out)
      cases ha : allS atomB s.data.toList
      · have hn : Hid (canonL s.data.toList = none) := Lib.hid (by rw [hck.out, keyB, ha]; rfl)
        clear hck
        replace ha := Lib.hid ha
        go_wp2_with fail
        go_ret2
        exact canon_no hn.out hb.out
      · by_cases hlen : s.size ≤ 32
        · have hy : Hid (canonL s.data.toList = some (lowL s.data.toList)) := Lib.hid (by rw [hck.out, keyB, ha, ← size_len, decide_eq_true hlen]; rfl)
          clear hck
          replace ha := Lib.hid ha
          go_wp2_with fail
          refine (small_any s hs9.out wr).mono ?_
          rintro e w3 ⟨rfl, hb3⟩
          have hb4 := Lib.hid (hb.out.trans (hb3.mono hb.out.size))
          clear hb3
          go_wp2_with fail
          go_ret2
          exact canon_yes hy.out hb4.out
        · have hn : Hid (canonL s.data.toList = none) := Lib.hid (by rw [hck.out, keyB, ha, ← size_len, decide_eq_false hlen]; rfl)
          clear hck
          replace ha := Lib.hid ha
          go_wp2_with fail
          go_ret2
          exact canon_no hn.out hb.out
theorem refSystem_any (k : Nat) (hk : k < 5) (w : World) : Calls Tryd.prog 40 #[.int .i64 k] w fun e w' => e = .returned (.string (mkB (sysL.getD k []))) ∧ w = w' := by
  have h5 : k = 0 ∨ k = 1 ∨ k = 2 ∨ k = 3 ∨ k = 4 := by omega
  clear hk
  rcases h5 with rfl | rfl | rfl | rfl | rfl
  all_goals
    go_enter Tryd.func40, Tryd.ntmps40
    go_wp2_with fail
    go_ret
    exact ⟨rfl, rfl⟩
end Go.Proofs.YtfglfoapgpghkaaDoor
