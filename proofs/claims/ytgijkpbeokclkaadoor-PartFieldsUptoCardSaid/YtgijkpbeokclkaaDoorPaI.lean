/- Section and Holds of both, Cut of the document: walked. -/
import Derived.Test.YtgijkpbeokclkaaDoorPaH
namespace Go.Proofs.YtgijkpbeokclkaaDoor
open Go.RowKit

def RetL (l : List UInt8) (w : World) (e : Ending) (w' : World) : Prop := ∃ u : ByteArray, e = .returned (.string u) ∧ Hid (u.data.toList = l) ∧ Hid (Below w.heap.size w w')
def secL (m : List UInt8) (kind : Int) : List UInt8 := if kind = 10 then m else if kind = 11 then (splitM m).1 else if kind = 12 then (splitM m).2 else []
theorem kind_cases (kind : Int) (m : List UInt8) :
    ((kind == 10) = true ∧ Hid (secL m kind = m)) ∨ ((kind == 10) = false ∧ (kind == 11) = true ∧ Hid (secL m kind = (splitM m).1)) ∨ ((kind == 10) = false ∧ (kind == 11) = false ∧ (kind == 12) = true ∧ Hid (secL m kind = (splitM m).2)) ∨ ((kind == 10) = false ∧ (kind == 11) = false ∧ (kind == 12) = false ∧ Hid (secL m kind = [])) := by
  by_cases h1 : kind = 10
  · exact .inl ⟨by simpa using h1, Lib.hid (by rw [secL, if_pos h1])⟩
  · by_cases h2 : kind = 11
    · exact .inr (.inl ⟨by simpa using h1, by simpa using h2, Lib.hid (by rw [secL, if_neg h1, if_pos h2])⟩)
    · by_cases h3 : kind = 12
      · exact .inr (.inr (.inl ⟨by simpa using h1, by simpa using h2, by simpa using h3, Lib.hid (by rw [secL, if_neg h1, if_neg h2, if_pos h3])⟩))
      · exact .inr (.inr (.inr ⟨by simpa using h1, by simpa using h2, by simpa using h3, Lib.hid (by rw [secL, if_neg h1, if_neg h2, if_neg h3])⟩))
set_option maxHeartbeats 1000000 in
theorem section_any (s : ByteArray) (kind : Int) (hs : s.size < 4294967281) (m : Int) (w : World) (hm : w.cell? ⟨0, 0, none⟩ = some (.int .i64 m)) :
    Calls Tryd.prog 18 #[.string s, .int .i64 kind] w (RetL (secL s.data.toList kind) w) := by
  have hsp := Lib.hid (split_any s hs m w hm)
  rcases kind_cases kind s.data.toList with ⟨k1, hk⟩ | ⟨k1, k2, hk⟩ | ⟨k1, k2, k3, hk⟩ | ⟨k1, k2, k3, hk⟩
  all_goals (
    rw [hk.out]
    clear hk
    go_enter Tryd.func18, Tryd.ntmps18
    go_wp2_with fail
    refine hsp.out.mono ?_
    rintro e w1 ⟨h, t, rfl, hht, dr, rfl⟩
    have hb1 : Hid (Below w.heap.size w (w.drewN dr)) := Lib.hid (below_drewN (Below.refl _ _) dr)
    have ho1 : Hid (h.data.toList = (splitM s.data.toList).1) := Lib.hid hht.out.1
    have ho2 : Hid (t.data.toList = (splitM s.data.toList).2) := Lib.hid hht.out.2
    clear hht hsp
    go_wp2_with fail
    go_ret
    exact ⟨_, rfl, by first | assumption | exact Lib.hid rfl, hb1⟩)
set_option maxHeartbeats 1000000 in
theorem refSection_any (s : ByteArray) (kind : Int) (hs : s.size ≤ 140737488355328) (w : World) :
    Calls Tryd.prog 19 #[.string s, .int .i64 kind] w (RetL (secL s.data.toList kind) w) := by
  have hsp := Lib.hid (refSplit_any s hs w)
  rcases kind_cases kind s.data.toList with ⟨k1, hk⟩ | ⟨k1, k2, hk⟩ | ⟨k1, k2, k3, hk⟩ | ⟨k1, k2, k3, hk⟩
  all_goals (
    rw [hk.out]
    clear hk
    go_enter Tryd.func19, Tryd.ntmps19
    go_wp2_with fail
    refine hsp.out.mono ?_
    rintro e w1 ⟨h, t, rfl, hht, dr, rfl⟩
    have hb1 : Hid (Below w.heap.size w (w.drewN dr)) := Lib.hid (below_drewN (Below.refl _ _) dr)
    have ho1 : Hid (h.data.toList = (splitM s.data.toList).1) := Lib.hid hht.out.1
    have ho2 : Hid (t.data.toList = (splitM s.data.toList).2) := Lib.hid hht.out.2
    clear hht hsp
    go_wp2_with fail
    go_ret
    exact ⟨_, rfl, by first | assumption | exact Lib.hid rfl, hb1⟩)
theorem cut_next (s : List UInt8) (f c k : Nat) (h : k < s.length) : cutL (s.take (k + 1)) f c = if f ≤ k ∧ (cutL (s.take k) f c).length < c then cutL (s.take k) f c ++ [s[k]] else cutL (s.take k) f c := by
  have hl : (cutL (s.take k) f c).length = min c (k - f) := by rw [cutL, List.length_take, List.length_drop, List.length_take, show min k s.length = k by omega]
  rw [hl]
  rw [cutL, List.take_succ_eq_append_getElem h]
  by_cases hf : f ≤ k
  · rw [List.drop_append_of_le_length (by rw [List.length_take]; omega)]
    have hd : ((s.take k).drop f).length = k - f := by rw [List.length_drop, List.length_take]; omega
    by_cases hc : min c (k - f) < c
    · rw [if_pos ⟨hf, hc⟩, List.take_append, cutL, hd]
      rw [List.take_of_length_le (l := [s[k]]) (by simp; omega)]
    · rw [if_neg (fun h => hc h.2), List.take_append, cutL, hd, show c - (k - f) = 0 by omega]
      simp
  · rw [if_neg (fun h => hf h.1), cutL]
    rw [List.drop_of_length_le (by simp; omega), List.drop_of_length_le (by simp; omega)]
set_option maxHeartbeats 1000000 in
theorem refCut_any (s : ByteArray) (f c : Nat) (hs : s.size ≤ 4194304) (_ : f < 18446744073709551616) (hc : c < 18446744073709551616) (w : World) :
    Calls Tryd.prog 21 #[.string s, .int .u64 f, .int .u64 c] w (RetL (cutL s.data.toList f c) w) := by
  go_enter Tryd.func21, Tryd.ntmps21
  go_wp2_with fail
  go_loopw [7, 8] (fun v i wr => ∃ (k : Nat) (o : ByteArray), k ≤ s.size ∧ o.size ≤ k ∧ i = .int .i64 k ∧ v = .string o ∧ Hid (o.data.toList = cutL (s.data.toList.take k) f c) ∧ Hid (Below w.heap.size w wr)) (fun _ i _ => s.size - (intOf i).toNat)
  case atStart => exact ⟨0, _, Nat.zero_le _, Nat.le_refl _, rfl, rfl, Lib.hid (by simp [cutL]), Lib.hid (Below.refl _ _)⟩
  case round =>
    obtain ⟨k, o, hk, ho, rfl, rfl, hp, hb⟩ := hrel
    by_cases hlt : k < s.size
    · have hn := cut_next s.data.toList f c k hlt
      rw [← hp.out] at hn
      have hol : o.data.toList.length = o.size := rfl
      rw [hol] at hn
      have hat : s.data.toList[k]'hlt = s[k] := rfl
      rw [hat] at hn
      clear hol hat
      by_cases h1 : f ≤ k
      · by_cases h2 : o.size < c
        · have hn2 : Hid ((o ++ ⟨#[s[k]]⟩).data.toList = cutL (s.data.toList.take (k + 1)) f c) := Lib.hid (by rw [hn, if_pos ⟨h1, h2⟩, toList_app])
          clear hn
          go_wp2_with fail
          go_roundw
          case rel =>
            refine ⟨k + 1, _, by omega, ?_, by go_num, rfl, ?_, hb⟩
            · rw [ByteArray.size_append, ByteArray.size_extract]; omega
            · rw [← hn2.out, toList_app, toList_app, ext_one s k hlt]; exact Lib.hid rfl
          case measure => simp [intOf]; omega
        · have hn2 : Hid (o.data.toList = cutL (s.data.toList.take (k + 1)) f c) := Lib.hid (by rw [hn, if_neg (fun h => h2 h.2)])
          clear hn
          go_wp2_with fail
          go_roundw
          case rel => exact ⟨k + 1, _, by omega, by omega, by go_num, rfl, hn2, hb⟩
          case measure => simp [intOf]; omega
      · have hn2 : Hid (o.data.toList = cutL (s.data.toList.take (k + 1)) f c) := Lib.hid (by rw [hn, if_neg (fun h => h1 h.1)])
        clear hn
        go_wp2_with fail
        go_roundw
        case rel => exact ⟨k + 1, _, by omega, by omega, by go_num, rfl, hn2, hb⟩
        case measure => simp [intOf]; omega
    · obtain rfl : k = s.size := by omega
      rw [take_all] at hp
      go_wp2_with fail
      go_ret
      exact ⟨_, rfl, hp, hb⟩
def holdsL (s u : List UInt8) : Bool := Lib.contains (upL s) (upL u)
theorem size_up (s : ByteArray) : (mkB (upL s.data.toList)).size = s.size := by show (upL s.data.toList).length = s.size; rw [upL_length]; rfl
set_option maxHeartbeats 1000000 in
theorem holds_any (s u : ByteArray) (hs : s.size ≤ 4194304) (hu : u.size ≤ 4194304) (m : Int) (w : World) (hm : w.cell? ⟨0, 0, none⟩ = some (.int .i64 m)) (h0 : 1 ≤ w.heap.size) :
    Calls Tryd.prog 13 #[.string s, .string u] w fun e w' => e = .returned (.bool (holdsL s.data.toList u.data.toList)) ∧ Hid (Below w.heap.size w w') := by
  have h1 := Lib.hid (upper_any s (by unfold maxLen; omega) w)
  have h2 := fun w => upper_any u (by unfold maxLen; omega) w
  replace h2 := Lib.hid h2
  have h3 := fun w' (h : Below w.heap.size w w') => Tryd.strings_Contains (mkB (upL s.data.toList)) (mkB (upL u.data.toList)) m w' (by rw [size_up]; omega) ((h.cell (p := ⟨0, 0, none⟩) (by show 0 < _; omega)).trans hm)
  replace h3 := Lib.hid h3
  have h0' := Lib.hid hm
  clear hm
  go_enter Tryd.func13, Tryd.ntmps13
  go_wp2_with fail
  refine h1.out.mono ?_
  rintro e w1 ⟨rfl, hb1⟩
  go_wp2_with fail
  refine (h2.out w1).mono ?_
  rintro e w2 ⟨rfl, hb2⟩
  have hb := hb1.trans (hb2.mono hb1.size)
  replace hb1 := Lib.hid hb1
  replace hb2 := Lib.hid hb2
  go_wp2_with fail
  refine (h3.out w2 hb).mono ?_
  rintro e w3 ⟨rfl, rfl⟩
  go_wp2_with fail
  go_ret
  exact ⟨rfl, Lib.hid hb⟩
theorem holds_hit {a b : List UInt8} {k : Nat} (hk : k ≤ a.length) (h : atL a k b = true) : Lib.contains a b = true := by
  rw [Lib.contains, decide_eq_true_eq]
  rcases Lib.index_spec a b with ⟨_, h2⟩ | ⟨i, h2, _⟩
  · have := h2 k hk
    rw [show Lib.occAt a b k = atL a k b from rfl, h] at this; cases this
  · omega
theorem holds_miss {a b : List UInt8} (h : ∀ j, j ≤ a.length → atL a j b = false) : Lib.contains a b = false := by
  rw [Lib.contains, decide_eq_false_iff_not]
  rw [Lib.index_none h]; decide
set_option maxHeartbeats 1000000 in
theorem refHolds_any (s u : ByteArray) (hs : s.size ≤ 4194304) (hu : u.size ≤ 4194304) (w : World) :
    Calls Tryd.prog 14 #[.string s, .string u] w fun e w' => e = .returned (.bool (holdsL s.data.toList u.data.toList)) ∧ Hid (Below w.heap.size w w') := by
  have h1 := Lib.hid (refUpper_any s (by unfold maxLen; omega) w)
  have h2 := fun w => refUpper_any u (by unfold maxLen; omega) w
  replace h2 := Lib.hid h2
  have hat := fun w i (hi : i ≤ 4194304) => at_any (mkB (upL s.data.toList)) (mkB (upL u.data.toList)) i (by rw [size_up]; omega) (by rw [size_up]; omega) (by omega) w
  have hhl : holdsL s.data.toList u.data.toList = Lib.contains (mkB (upL s.data.toList)).data.toList (mkB (upL u.data.toList)).data.toList := rfl
  rw [hhl]
  have hAs := size_up s
  replace h1 : Hid (Calls Tryd.prog 29 #[.string s] w fun e w' => e = .returned (.string (mkB (upL s.data.toList))) ∧ Below w.heap.size w w') := h1
  replace h2 : Hid (∀ w, Calls Tryd.prog 29 #[.string u] w fun e w' => e = .returned (.string (mkB (upL u.data.toList))) ∧ Below w.heap.size w w') := h2
  generalize mkB (upL s.data.toList) = A at h1 hat hAs ⊢
  generalize mkB (upL u.data.toList) = B at h2 hat ⊢
  replace hat := Lib.hid hat
  clear hhl
  have hAl : A.data.toList.length = A.size := rfl
  replace hAl := Lib.hid hAl
  go_enter Tryd.func14, Tryd.ntmps14
  go_wp2_with fail
  refine h1.out.mono ?_
  rintro e w1 ⟨rfl, hb1⟩
  go_wp2_with fail
  refine (h2.out w1).mono ?_
  rintro e w2 ⟨rfl, hb2⟩
  have hb := Lib.hid (hb1.trans (hb2.mono hb1.size))
  clear hb1 hb2 h1 h2
  go_wp2_with fail
  go_loop [7] (fun vk => ∃ k : Nat, vk = .int .i64 k ∧ k ≤ A.size + 1 ∧ Hid (∀ j, j < k → atL A.data.toList j B.data.toList = false)) (fun vk => A.size + 1 - (intOf vk).toNat)
  case atStart => exact ⟨0, rfl, Nat.zero_le _, Lib.hid (fun j hj => by omega)⟩
  case round =>
    obtain ⟨k, rfl, hk, hno⟩ := hrel
    by_cases hlt : k ≤ A.size
    · have hat1 := hat.out w2 k (by omega)
      rw [decide_eq_true hlt, Bool.true_and] at hat1
      cases hB : atL A.data.toList k B.data.toList
      · rw [hB] at hat1
        replace hat1 := Lib.hid hat1
        have hn : Hid (∀ j, j < k + 1 → atL A.data.toList j B.data.toList = false) := Lib.hid (fun j hj => by
          rcases Nat.lt_or_ge j k with h | h
          · exact hno.out j h
          · obtain rfl : j = k := by omega
            exact hB)
        replace hB := Lib.hid hB
        go_wp2_with fail
        refine hat1.out.mono ?_
        rintro e w' ⟨rfl, rfl⟩
        go_wp2_with fail
        go_round
        case rel => exact ⟨k + 1, by go_num, by omega, hn⟩
        case measure => simp [intOf]; omega
      · rw [hB] at hat1
        replace hat1 := Lib.hid hat1
        have hres := holds_hit (by rw [hAl.out]; exact hlt) hB
        replace hres := Lib.hid hres
        replace hB := Lib.hid hB
        go_wp2_with fail
        refine hat1.out.mono ?_
        rintro e w' ⟨rfl, rfl⟩
        go_wp2_with fail
        go_ret
        exact ⟨by rw [hres.out]; rfl, hb⟩
    · have hres := holds_miss (a := A.data.toList) (b := B.data.toList) (fun j hj => hno.out j (by rw [hAl.out] at hj; omega))
      replace hres := Lib.hid hres
      go_wp2_with fail
      go_ret
      exact ⟨by rw [hres.out]; rfl, hb⟩
end Go.Proofs.YtgijkpbeokclkaaDoor
