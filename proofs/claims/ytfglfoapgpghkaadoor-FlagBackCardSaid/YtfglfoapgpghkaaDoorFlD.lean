/- The document's side of flags, walked: Canon, place, less, Has, With. -/
import Derived.Test.YtfglfoapgpghkaaDoorFlC
import Derived.Deep.QuietTactic
import Derived.BigQuiet
namespace Go.Proofs.YtfglfoapgpghkaaDoor
open Go.RowKit

set_option maxRecDepth 100000 in
set_option maxHeartbeats 2000000 in
theorem refCanon_any (s : ByteArray) (hs0 : s.size ≤ maxLen) (w : World) : Calls Tryd.prog 22 #[.string s] w (CanonRet s.data.toList w) := by
  have hs9 := Lib.hid hs0
  clear hs0
  have kb := run_conv_one (P := Tryd.prog) 50 9 5 Tryd.underlying50 Tryd.underlying5 Tryd.underlying9
  go_enter Tryd.func22, Tryd.ntmps22
  go_wp2_with fail
  go_loopw [4] (fun vk wr => ∃ k : Nat, vk = .int .i64 k ∧ k ≤ 5 ∧ Hid (∀ j, j < k → isSys s.data.toList j = false) ∧ Hid (Below w.heap.size w wr)) (fun vk _ => 5 - (intOf vk).toNat)
  case atStart => exact ⟨0, rfl, by omega, Lib.hid (fun j h => absurd h (Nat.not_lt_zero _)), Lib.hid (Below.refl _ _)⟩
  case round =>
    obtain ⟨k, rfl, hk, hno, hb⟩ := hrel
    by_cases hk5 : k < 5
    · go_wp2_with fail
      refine (refSystem_any k hk5 wr).mono ?_
      rintro e w' ⟨rfl, rfl⟩
      go_wp2_with fail
      refine (refUpperS_any (mkB (sysL.getD k [])) (sys_le k hk5) wr).mono ?_
      rintro e w2 ⟨U1, rfl, hU1, hb1⟩
      go_wp2_with fail
      refine (refUpperS_any s hs9.out w2).mono ?_
      rintro e w3 ⟨U2, rfl, hU2, hb2⟩
      have hq' : (U1.toList == U2.toList) = isSys s.data.toList k := eqS_of hU1 hU2
      have hb3 := Lib.hid ((hb.out.trans (hb1.mono hb.out.size)).trans (hb2.mono (Nat.le_trans hb.out.size hb1.size)))
      clear hb1 hb2 hU1 hU2
      cases h : isSys s.data.toList k
      · rw [h] at hq'
        have hno' : Hid (∀ j, j < k + 1 → isSys s.data.toList j = false) := Lib.hid (fun j hj => by
          rcases Nat.lt_or_ge j k with h1 | h1
          · exact hno.out j h1
          · obtain rfl : j = k := by omega
            exact h)
        replace h := Lib.hid h
        go_wp2_with fail
        go_roundw
        case rel => exact ⟨k + 1, by go_num, by omega, hno', hb3⟩
        case measure => simp [intOf]; omega
      · rw [h] at hq'
        have hc := Lib.hid (canon_sys s.data.toList k (by omega) hno.out h)
        replace h := Lib.hid h
        go_wp2_with fail
        refine (refSystem_any k hk5 w3).mono ?_
        rintro e w' ⟨rfl, rfl⟩
        go_wp2_with fail
        go_ret2
        exact canon_yes hc.out hb3.out
    · obtain rfl : k = 5 := by omega
      have hck := Lib.hid (canon_key s.data.toList hno.out)
      rw [show ((5 : Nat) : Int) = (5 : Int) from rfl]
      go_wp2_with fail
      refine (refAtom_any s hs9.out wr).mono ?_
      rintro e w2 ⟨rfl, rfl⟩
      cases ha : allS atomB s.data.toList
      · have hn : Hid (canonL s.data.toList = none) := Lib.hid (by rw [hck.out, keyB, ha]; rfl)
        clear hck
        replace ha := Lib.hid ha
        go_wp2_with fail
        go_ret2
        exact canon_no hn.out hb.out
      · by_cases hlen : s.size ≤ 32
        · have hy : Hid (canonL s.data.toList = some (lowL s.data.toList)) := Lib.hid (by rw [hck.out, keyB, ha, ← size_len, decide_eq_true hlen]; rfl)
          clear hck
          replace ha := Lib.hid ha
          go_wp2_with fail
          go_loopw [5, 6] (fun v i wr2 => ∃ (k : Nat) (o : ByteArray), k ≤ s.size ∧ o.size ≤ k ∧ i = .int .i64 k ∧ v = .string o ∧ Hid (o.data.toList = lowL (s.data.toList.take k)) ∧ Hid (Below w.heap.size w wr2)) (fun _ i _ => s.size - (intOf i).toNat)
          case atStart => exact ⟨0, _, Nat.zero_le _, Nat.zero_le _, rfl, rfl, rfl, hb⟩
          case round =>
            obtain ⟨k, o, hk2, ho, rfl, rfl, hp, hb2⟩ := hrel
            have hba : Hid (∀ ob, Below w.heap.size w (wr.alloc ob)) := Lib.hid (fun ob => hb2.out.alloc hb2.out.size ob)
            by_cases hlt : k < s.size
            · go_wp2_with fail
              · refine ⟨⟨k + 1, _, by omega, size_app1 _ ho, by go_num, rfl, lowL_step s o k hlt _ hp (lowB_ref _ (by assumption) (by assumption)), Lib.hid (hba.out _)⟩, by simp [intOf]; omega⟩
              · refine ⟨⟨k + 1, _, by omega, size_app1 _ ho, by go_num, rfl, lowL_step s o k hlt _ hp (lowB_no _ (by omega)).symm, Lib.hid (hba.out _)⟩, by simp [intOf]; omega⟩
              · refine ⟨⟨k + 1, _, by omega, size_app1 _ ho, by go_num, rfl, lowL_step s o k hlt _ hp (lowB_no _ (by omega)).symm, Lib.hid (hba.out _)⟩, by simp [intOf]; omega⟩
            · obtain rfl : k = s.size := by omega
              rw [take_all] at hp
              go_wp2_with fail
              go_ret2
              exact canon_yes (by rw [hy.out, hp.out]) hb2.out
        · have hn : Hid (canonL s.data.toList = none) := Lib.hid (by rw [hck.out, keyB, ha, ← size_len, decide_eq_false hlen]; rfl)
          clear hck
          replace ha := Lib.hid ha
          go_wp2_with fail
          go_ret2
          exact canon_no hn.out hb.out
theorem place_at (x : List UInt8) (k : Nat) (hk : k < 5) (h1 : ∀ j, j < k → (sysL.getD j [] == x) = false) (h2 : (sysL.getD k [] == x) = true) : placeL x = k := by
  have e : ∀ (l : List (List UInt8)) (k : Nat), k < l.length → (∀ j, j < k → (l.getD j [] == x) = false) → (l.getD k [] == x) = true → l.idxOf x = k := by
    intro l
    induction l with
    | nil => intro k hk; simp at hk
    | cons y r ih =>
      intro k hk h1 h2
      match k, hk, h1, h2 with
      | 0, _, _, h2 => rw [List.idxOf_cons, show (y == x) = true from h2]; rfl
      | k + 1, hk, h1, h2 =>
        rw [List.idxOf_cons, show (y == x) = false from h1 0 (by omega)]
        have := ih k (by simpa using hk) (fun j hj => h1 (j + 1) (by omega)) h2
        simpa using this
  exact e sysL k hk h1 h2
theorem place_none (x : List UInt8) (h1 : ∀ j, j < 5 → (sysL.getD j [] == x) = false) : placeL x = 5 := by
  refine List.idxOf_eq_length fun hx => ?_
  obtain ⟨j, hj, e⟩ := List.getElem_of_mem hx
  have := h1 j hj
  rw [List.getD, List.getElem?_eq_getElem hj] at this
  simp only [Option.getD_some, e, beq_self_eq_true] at this
  cases this
set_option maxHeartbeats 1000000 in
theorem refPlace_any (s : ByteArray) (w : World) : Calls Tryd.prog 57 #[.string s] w fun e w' => e = .returned (.int .i64 (placeL s.data.toList)) ∧ w = w' := by
  go_enter Tryd.func57, Tryd.ntmps57
  go_wp2_with fail
  go_loop [3] (fun vk => ∃ k : Nat, vk = .int .i64 k ∧ k ≤ 5 ∧ Hid (∀ j, j < k → (sysL.getD j [] == s.data.toList) = false)) (fun vk => 5 - (intOf vk).toNat)
  case atStart => exact ⟨0, rfl, by omega, Lib.hid (fun j h => absurd h (Nat.not_lt_zero _))⟩
  case round =>
    obtain ⟨k, rfl, hk, hno⟩ := hrel
    by_cases hk5 : k < 5
    · go_wp2_with fail
      refine (refSystem_any k hk5 w).mono ?_
      rintro e w' ⟨rfl, rfl⟩
      have hq : ((mkB (sysL.getD k [])).toList == s.toList) = (sysL.getD k [] == s.data.toList) := by rw [eq_str, mkB_list]
      generalize mkB (sysL.getD k []) = F at hq ⊢
      cases h : (sysL.getD k [] == s.data.toList)
      · rw [h] at hq
        have hno' : Hid (∀ j, j < k + 1 → (sysL.getD j [] == s.data.toList) = false) := Lib.hid (fun j hj => by
          rcases Nat.lt_or_ge j k with h1 | h1
          · exact hno.out j h1
          · obtain rfl : j = k := by omega
            exact h)
        replace h := Lib.hid h
        go_wp2_with fail
        exact ⟨⟨k + 1, by go_num, by omega, hno'⟩, by simp [intOf]; omega⟩
      · rw [h] at hq
        have hp := Lib.hid (place_at _ k hk5 hno.out h)
        replace h := Lib.hid h
        go_wp2_with fail
        go_ret
        exact ⟨by rw [hp.out]; rfl, rfl⟩
    · obtain rfl : k = 5 := by omega
      have hp := Lib.hid (place_none _ hno.out)
      go_wp2_with fail
      go_ret
      exact ⟨by rw [hp.out]; rfl, rfl⟩
theorem bytesLess_eq : ∀ a b : List UInt8, Op.bytesLess a b = bytesBefore a b
  | [], [] => rfl
  | _ :: _, [] => rfl
  | [], _ :: _ => rfl
  | a :: x, b :: y => by rw [Op.bytesLess, bytesBefore, bytesLess_eq x y]
set_option maxHeartbeats 1000000 in
theorem refLess_any (a b : ByteArray) (w : World) : Calls Tryd.prog 43 #[.string a, .string b] w fun e w' => e = .returned (.bool (flt a.data.toList b.data.toList)) ∧ w = w' := by
  have h1 := placeL_le a.data.toList
  have h2 := placeL_le b.data.toList
  have hf := Lib.hid (flt_eq a.data.toList b.data.toList)
  have hl : Op.bytesLess a.toList b.toList = bytesBefore a.data.toList b.data.toList := by rw [bytesLess_eq, ByteArray.toList_eq, ByteArray.toList_eq]
  go_enter Tryd.func43, Tryd.ntmps43
  go_wp2_with fail
  refine (refPlace_any a w).mono ?_
  rintro e w' ⟨rfl, rfl⟩
  go_wp2_with fail
  refine (refPlace_any b w).mono ?_
  rintro e w' ⟨rfl, rfl⟩
  by_cases h : placeL a.data.toList = placeL b.data.toList
  · have hr : Hid (flt a.data.toList b.data.toList = bytesBefore a.data.toList b.data.toList) := Lib.hid (by rw [hf.out, if_pos h])
    rw [h]
    clear h
    go_wp2_with fail
    go_ret
    exact ⟨by rw [hr.out]; first | rfl | (rw [hl]; rfl), rfl⟩
  · have hne : ((placeL a.data.toList : Int) != (placeL b.data.toList : Int)) = true := by rw [bne_iff_ne]; omega
    have hr : Hid (flt a.data.toList b.data.toList = decide ((placeL a.data.toList : Int) < placeL b.data.toList)) := Lib.hid (by
      rw [hf.out, if_neg h, decide_eq_decide]; omega)
    clear h
    go_wp2_with fail
    refine (refPlace_any a w).mono ?_
    rintro e w' ⟨rfl, rfl⟩
    go_wp2_with fail
    refine (refPlace_any b w).mono ?_
    rintro e w' ⟨rfl, rfl⟩
    go_wp2_with fail
    go_ret
    exact ⟨by rw [hr.out]; first | rfl | simp, rfl⟩
set_option maxHeartbeats 1000000 in
theorem refHas_any (v : Value) (l : List (List UInt8)) (f : ByteArray) (w : World) (hr : Rd w v l.length (l.map encStr)) (hl : l.length * 16 ≤ 140737488355328) :
    Calls Tryd.prog 42 #[v, .string f] w fun e w' => e = .returned (.bool (decide (f.data.toList ∈ l))) ∧ w = w' := by
  have hr0 := Lib.hid hr
  obtain ⟨ao, cap, rfl, -⟩ := hr
  go_enter Tryd.func42, Tryd.ntmps42
  go_wp2_with fail
  go_loop [5] (fun vk => ∃ k : Nat, vk = .int .i64 k ∧ k ≤ l.length ∧ Hid (f.data.toList ∉ l.take k)) (fun vk => l.length - (intOf vk).toNat)
  case atStart => exact ⟨0, rfl, Nat.zero_le _, Lib.hid (by simp)⟩
  case round =>
    obtain ⟨k, rfl, hk, hno⟩ := hrel
    by_cases hlt : k < l.length
    · obtain ⟨b, o, hao, hbl, hcell⟩ := hr0.out.at_pos (by omega)
      subst hao
      have hc : w.cell? ⟨b, o + k, none⟩ = some (.string (mkB l[k])) := hcell k _ (by rw [List.getElem?_map, List.getElem?_eq_getElem hlt]; rfl)
      have hq : ((mkB l[k]).toList == f.toList) = (l[k] == f.data.toList) := by rw [eq_str, mkB_list]
      generalize mkB l[k] = F at hq hc
      clear hcell
      cases h : (l[k] == f.data.toList)
      · rw [h] at hq
        have hno' : Hid (f.data.toList ∉ l.take (k + 1)) := Lib.hid (by
          rw [List.take_succ_eq_append_getElem hlt, List.mem_append]
          rintro (h1 | h1)
          · exact hno.out h1
          · have : f.data.toList = l[k] := by simpa using h1
            rw [this] at h; simp at h)
        replace h := Lib.hid h
        go_wp2_with fail
        exact ⟨⟨k + 1, by go_num, by omega, hno'⟩, by simp [intOf]; omega⟩
      · rw [h] at hq
        have hm : Hid (f.data.toList ∈ l) := Lib.hid (by rw [← eq_of_beq h]; exact List.getElem_mem hlt)
        replace h := Lib.hid h
        go_wp2_with fail
        go_ret
        exact ⟨by rw [decide_eq_true hm.out]; rfl, rfl⟩
    · have hm : Hid (f.data.toList ∉ l) := Lib.hid (by have := hno.out; rwa [List.take_of_length_le (by omega)] at this)
      go_wp2_with fail
      go_ret
      exact ⟨by rw [decide_eq_false hm.out]; rfl, rfl⟩
end Go.Proofs.YtfglfoapgpghkaaDoor
