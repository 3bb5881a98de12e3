/- PartFirst: walked. -/
import Derived.Test.YtgijkpbeokclkaaDoorPaM
namespace Go.Proofs.YtgijkpbeokclkaaDoor
open Go.RowKit

theorem cat_list (N V M : ByteArray) : (N ++ ⟨#[58]⟩ ++ V ++ ⟨#[13, 10]⟩ ++ M).data.toList = N.data.toList ++ [58] ++ V.data.toList ++ [13, 10] ++ M.data.toList := by
  rw [toList_app, toList_app, toList_app, toList_app]
theorem field_first (N V M : ByteArray) (hN : ∀ c ∈ N.data.toList, isP c = true) (hne : N.size ≠ 0) (hV : ∀ c ∈ V.data.toList, isP c = true) (hM : goesOn M.data.toList = false) (h1 : N.size ≤ 1048577) (h2 : V.size ≤ 1048576) (h3 : M.size ≤ 1048577) (m : Int) (w : World) (hm : w.cell? ⟨0, 0, none⟩ = some (.int .i64 m)) :
    Calls Tryd.prog 11 #[.string (N ++ ⟨#[58]⟩ ++ V ++ ⟨#[13, 10]⟩ ++ M), .string N] w fun e w' => ∃ u : ByteArray, e = .returned (.tuple #[.string u, .bool true]) ∧ (u.toList == V.toList) = true ∧ Hid (Below w.heap.size w w') := by
  have e58 : (ByteArray.mk #[58]).size = 1 := rfl
  have e13 : (ByteArray.mk #[13, 10]).size = 2 := rfl
  have h := field_any (N ++ ⟨#[58]⟩ ++ V ++ ⟨#[13, 10]⟩ ++ M) N (by simp only [ByteArray.size_append, e58, e13]; omega) (by omega) m w hm (heap_pos hm)
  unfold FieldRet at h
  rw [cat_list, first_field hN (fun e => hne (by rw [size_of_list e]; rfl)) hV hM] at h
  exact h.mono fun e w' ⟨u, he, hu, hb⟩ => ⟨u, he, eq_both (l := V.data.toList) hu.out rfl, hb⟩
set_option maxRecDepth 100000 in
set_option maxHeartbeats 2000000 in
theorem partFirst_any (M name value : ByteArray) (hM : M.size ≤ 1048576) (hn : name.size ≤ 1048576) (hv : value.size ≤ 1048576) (w : World) (hm : ∃ m, w.cell? ⟨0, 0, none⟩ = some (.int .i64 m)) :
    Calls Tryd.prog 5 #[.string M, .string name, .string value] w fun e w' => e = .returned (.bool true) ∧ Below w.heap.size w w' := by
  obtain ⟨m, hm⟩ := hm
  have h0 := heap_pos hm
  have hal := Lib.hid (alive_any m w hm h0)
  have hp1 := Lib.hid (fun w' => plain_any name (by omega) w')
  have hp2 := Lib.hid (fun w' => plain_any value (by omega) w')
  have hmb := Lib.hid (fun w' (h : Below w.heap.size w w') => (h.cell (p := ⟨0, 0, none⟩) (by show 0 < _; omega)).trans hm)
  have hnl := plain_len name.data.toList
  have hvl := plain_len value.data.toList
  have e1 : name.data.toList.length = name.size := rfl
  have e2 : value.data.toList.length = value.size := rfl
  rw [e1] at hnl
  rw [e2] at hvl
  clear e1 e2 hm
  go_enter Tryd.func5, Tryd.ntmps5
  go_wp2_with fail
  refine hal.out.mono ?_
  rintro e w1 ⟨rfl, b1⟩
  clear hal
  go_wp2_with fail
  refine (hp1.out w1).mono ?_
  rintro e w2 ⟨N, rfl, hN, b2⟩
  have c2 := Lib.hid (b1.out.trans (b2.out.mono b1.out.size))
  have hNs : N.size ≤ 1048576 := by rw [size_of_list hN.out]; omega
  have hNp : Hid (∀ c ∈ N.data.toList, isP c = true) := Lib.hid (by rw [hN.out]; exact plain_isP)
  clear hp1 hN hnl
  by_cases hz0 : N.size = 0
  · have he : N.toList.isEmpty = true := by rw [ByteArray.toList_eq, List.isEmpty_iff]; exact List.eq_nil_of_length_eq_zero hz0
    clear hNp hNs hz0
    have hNp : Hid (∀ c ∈ (ByteArray.mk #[120]).data.toList, isP c = true) := Lib.hid (by decide)
    have hNs : (ByteArray.mk #[120]).size ≤ 1048576 := by decide
    have hz : (ByteArray.mk #[120]).size ≠ 0 := by decide
    replace hNs := Lib.hid hNs
    replace hz := Lib.hid hz
    go_wp2_with fail
    refine (hp2.out w2).mono ?_
    rintro e w3 ⟨V, rfl, hV, b3⟩
    have c3 := Lib.hid (c2.out.trans (b3.out.mono c2.out.size))
    have hVs : V.size ≤ 1048576 := by rw [size_of_list hV.out]; omega
    have hVp : Hid (∀ c ∈ V.data.toList, isP c = true) := Lib.hid (by rw [hV.out]; exact plain_isP)
    have hfin := Lib.hid (fun (M' : ByteArray) (hg : goesOn M'.data.toList = false) (h3 : M'.size ≤ 1048577) => field_first ⟨#[120]⟩ V M' hNp.out hz.out hVp.out hg (Nat.le_trans hNs.out (by decide)) hVs h3 m w3 (hmb.out w3 c3.out))
    clear hp2 hV hvl hmb
    by_cases hM0 : M.size = 0
    · have hf := Lib.hid (hfin.out M (by rw [List.eq_nil_of_length_eq_zero (show M.data.toList.length = 0 from hM0)]; rfl) (by omega))
      clear hfin
      go_wp2_with fail
      refine hf.out.mono ?_
      rintro e w4 ⟨u, rfl, hq, b4⟩
      have c4 := Lib.hid (c3.out.trans (b4.out.mono c3.out.size))
      clear hf
      go_wp2_with fail
      go_ret
      exact ⟨rfl, c4.out⟩
    · have hM1 : 0 < M.size := by omega
      have hgo : goesOn M.data.toList = isBl M[0] := by
        have := drop_cons M 0 hM1
        rw [List.drop_zero] at this
        rw [this]; rfl
      by_cases hb : isBl M[0] = true
      · have hf := Lib.hid (hfin.out (⟨#[121]⟩ ++ M) (by rw [toList_app]; rfl) (by rw [ByteArray.size_append]; show 1 + M.size ≤ _; omega))
        have hc : ((M[0].toNat : Int) == 32) = true ∨ (((M[0].toNat : Int) == 32) = false ∧ ((M[0].toNat : Int) == 9) = true) := by
          rw [isBl] at hb
          by_cases h32 : M[0] = 32
          · left; rw [h32]; rfl
          · have h9 : M[0] = 9 := by simpa [h32] using hb
            right; rw [h9]; exact ⟨rfl, rfl⟩
        clear hfin hgo hb
        rcases hc with hc | ⟨hc, hc2⟩
        all_goals (
          go_wp2_with fail
          refine hf.out.mono ?_
          rintro e w4 ⟨u, rfl, hq, b4⟩
          have c4 := Lib.hid (c3.out.trans (b4.out.mono c3.out.size))
          clear hf
          go_wp2_with fail
          go_ret
          exact ⟨rfl, c4.out⟩)
      · have hf := Lib.hid (hfin.out M (by rw [hgo]; simpa using hb) (by omega))
        have hc : ((M[0].toNat : Int) == 32) = false ∧ ((M[0].toNat : Int) == 9) = false := by
          rw [isBl, Bool.or_eq_true, beq_iff_eq, beq_iff_eq] at hb
          exact ⟨beq_eq_false_iff_ne.2 fun e => hb (.inl (byte_ext e)), beq_eq_false_iff_ne.2 fun e => hb (.inr (byte_ext e))⟩
        obtain ⟨hc, hc2⟩ := hc
        clear hfin hgo hb
        go_wp2_with fail
        refine hf.out.mono ?_
        rintro e w4 ⟨u, rfl, hq, b4⟩
        have c4 := Lib.hid (c3.out.trans (b4.out.mono c3.out.size))
        clear hf
        go_wp2_with fail
        go_ret
        exact ⟨rfl, c4.out⟩
  · have he : N.toList.isEmpty = false := by
      rw [ByteArray.toList_eq, Bool.eq_false_iff]
      intro h
      rw [List.isEmpty_iff] at h
      exact hz0 (by rw [size_of_list h]; rfl)
    have hz := Lib.hid hz0
    clear hz0
    go_wp2_with fail
    refine (hp2.out w2).mono ?_
    rintro e w3 ⟨V, rfl, hV, b3⟩
    have c3 := Lib.hid (c2.out.trans (b3.out.mono c2.out.size))
    have hVs : V.size ≤ 1048576 := by rw [size_of_list hV.out]; omega
    have hVp : Hid (∀ c ∈ V.data.toList, isP c = true) := Lib.hid (by rw [hV.out]; exact plain_isP)
    have hfin := Lib.hid (fun (M' : ByteArray) (hg : goesOn M'.data.toList = false) (h3 : M'.size ≤ 1048577) => field_first N V M' hNp.out hz.out hVp.out hg (by omega) hVs h3 m w3 (hmb.out w3 c3.out))
    clear hp2 hV hvl hmb
    by_cases hM0 : M.size = 0
    · have hf := Lib.hid (hfin.out M (by rw [List.eq_nil_of_length_eq_zero (show M.data.toList.length = 0 from hM0)]; rfl) (by omega))
      clear hfin
      go_wp2_with fail
      refine hf.out.mono ?_
      rintro e w4 ⟨u, rfl, hq, b4⟩
      have c4 := Lib.hid (c3.out.trans (b4.out.mono c3.out.size))
      clear hf
      go_wp2_with fail
      go_ret
      exact ⟨rfl, c4.out⟩
    · have hM1 : 0 < M.size := by omega
      have hgo : goesOn M.data.toList = isBl M[0] := by
        have := drop_cons M 0 hM1
        rw [List.drop_zero] at this
        rw [this]; rfl
      by_cases hb : isBl M[0] = true
      · have hf := Lib.hid (hfin.out (⟨#[121]⟩ ++ M) (by rw [toList_app]; rfl) (by rw [ByteArray.size_append]; show 1 + M.size ≤ _; omega))
        have hc : ((M[0].toNat : Int) == 32) = true ∨ (((M[0].toNat : Int) == 32) = false ∧ ((M[0].toNat : Int) == 9) = true) := by
          rw [isBl] at hb
          by_cases h32 : M[0] = 32
          · left; rw [h32]; rfl
          · have h9 : M[0] = 9 := by simpa [h32] using hb
            right; rw [h9]; exact ⟨rfl, rfl⟩
        clear hfin hgo hb
        rcases hc with hc | ⟨hc, hc2⟩
        all_goals (
          go_wp2_with fail
          refine hf.out.mono ?_
          rintro e w4 ⟨u, rfl, hq, b4⟩
          have c4 := Lib.hid (c3.out.trans (b4.out.mono c3.out.size))
          clear hf
          go_wp2_with fail
          go_ret
          exact ⟨rfl, c4.out⟩)
      · have hf := Lib.hid (hfin.out M (by rw [hgo]; simpa using hb) (by omega))
        have hc : ((M[0].toNat : Int) == 32) = false ∧ ((M[0].toNat : Int) == 9) = false := by
          rw [isBl, Bool.or_eq_true, beq_iff_eq, beq_iff_eq] at hb
          exact ⟨beq_eq_false_iff_ne.2 fun e => hb (.inl (byte_ext e)), beq_eq_false_iff_ne.2 fun e => hb (.inr (byte_ext e))⟩
        obtain ⟨hc, hc2⟩ := hc
        clear hfin hgo hb
        go_wp2_with fail
        refine hf.out.mono ?_
        rintro e w4 ⟨u, rfl, hq, b4⟩
        have c4 := Lib.hid (c3.out.trans (b4.out.mono c3.out.size))
        clear hf
        go_wp2_with fail
        go_ret
        exact ⟨rfl, c4.out⟩
end Go.Proofs.YtgijkpbeokclkaaDoor
