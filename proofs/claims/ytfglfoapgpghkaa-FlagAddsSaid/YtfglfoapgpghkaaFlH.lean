/- Has, Right of both, great: walked. -/
import Derived.Test.YtfglfoapgpghkaaFlG
namespace Go.Proofs.Ytfglfoapgpghkaa
open Go.RowKit

/-- is a list a set of flags? -/
def rightB (l : List (List UInt8)) : Bool := (l.all fun f => decide (canonL f = some f)) && (decide (l.length ≤ 16) && decide (l = fset l))
theorem rightB_iff (l : List (List UInt8)) : rightB l = true ↔ (∀ f ∈ l, canonL f = some f) ∧ l.length ≤ 16 ∧ SSorted flt l := by
  rw [rightB]
  simp only [Bool.and_eq_true, List.all_eq_true, decide_eq_true_eq]
  constructor
  · rintro ⟨h1, h2, h3⟩; exact ⟨h1, h2, by rw [h3]; exact sorted_setS flt_sto l⟩
  · rintro ⟨h1, h2, h3⟩; exact ⟨h1, h2, (setS_of_sorted flt_sto l h3).symm⟩
theorem rightB_not {l : List (List UInt8)} {f : List UInt8} (hf : f ∈ l) (hn : canonL f ≠ some f) : rightB l = false := by
  cases h : rightB l
  · rfl
  · exact absurd (((rightB_iff l).1 h).1 f hf) hn
set_option maxHeartbeats 1000000 in
theorem has_any (v : Value) (l : List (List UInt8)) (f : ByteArray) (w : World) (hr : Rd w v l.length (l.map encStr)) (hl : l.length * 16 ≤ 140737488355328) :
    Calls Try.prog 17 #[v, .string f] w fun e w' => e = .returned (.bool (decide (f.data.toList ∈ l))) ∧ w = w' := by
  have hc : Calls Try.prog 33 #[v, .string f] w fun e w' => e = .returned (.bool (decide (f.data.toList ∈ l))) ∧ w = w' := by
    obtain ⟨ao, cap, rfl, h⟩ := hr
    rcases h with h | ⟨b, o, rfl, hb, hle, hc⟩
    · obtain rfl := List.eq_nil_of_length_eq_zero h
      exact (Try.slices_Contains_string_empty ao cap f w).mono fun _ _ ⟨he, hw⟩ => ⟨by rw [he]; simp, hw.symm⟩
    · have h := Try.slices_Contains_string b o l.length cap (l.map mkB) f w (by simp) (by omega) (fun j hj => by
        have hj' : j < l.length := by simpa using hj
        rw [rd_cell hc hj']
        simp [List.getD, hj'])
      have e : Lib.containsS ((l.map mkB).take l.length) f = decide (f.data.toList ∈ l) := by
        rw [Bool.eq_iff_iff, Lib.containsS_iff, List.take_of_length_le (by simp), decide_eq_true_eq, List.mem_map]
        constructor
        · rintro ⟨x, hx, rfl⟩; exact hx
        · intro hx; exact ⟨_, hx, rfl⟩
      rw [e] at h
      exact h.mono fun _ _ ⟨he, hw⟩ => ⟨he, hw.symm⟩
  replace hc := Lib.hid hc
  generalize decide (f.data.toList ∈ l) = B at hc ⊢
  clear hr
  go_enter Try.func17, Try.ntmps17
  go_wp2_with fail
  refine hc.out.mono ?_
  rintro e w' ⟨rfl, rfl⟩
  go_wp2_with fail
  go_ret
  exact ⟨rfl, rfl⟩
/-- slices.Equal of two lists of texts -/
theorem equal_any (v1 v2 : Value) (l m : List (List UInt8)) (w : World) (h1 : Rd w v1 l.length (l.map encStr)) (h2 : Rd w v2 m.length (m.map encStr)) (hl : l.length * 16 ≤ 140737488355328) (hm : m.length * 16 ≤ 140737488355328) :
    Calls Try.prog 24 #[v1, v2] w fun e w' => e = .returned (.bool (decide (l = m))) ∧ Hid (Below w.heap.size w w') := by
  obtain ⟨a1, c1, rfl, h1⟩ := h1
  obtain ⟨a2, c2, rfl, h2⟩ := h2
  by_cases hlen : l.length = m.length
  · rcases h1 with h1 | ⟨b1, o1, rfl, hb1, hle1, hc1⟩
    · obtain rfl := List.eq_nil_of_length_eq_zero h1
      have hm0 : m = [] := List.eq_nil_of_length_eq_zero (by rw [← hlen]; rfl)
      subst hm0
      exact (Try.slices_Equal_string_empty a1 a2 c1 0 c2 w (by omega)).mono fun _ _ ⟨he, hw⟩ => ⟨he, Lib.hid (by rw [hw]; exact Below.refl _ _)⟩
    · rcases h2 with h2 | ⟨b2, o2, rfl, hb2, hle2, hc2⟩
      · have hm0 : m = [] := List.eq_nil_of_length_eq_zero h2
        subst hm0
        have hl0 : l = [] := List.eq_nil_of_length_eq_zero (by rw [hlen]; rfl)
        subst hl0
        exact (Try.slices_Equal_string_empty _ a2 c1 0 c2 w (by omega)).mono fun _ _ ⟨he, hw⟩ => ⟨he, Lib.hid (by rw [hw]; exact Below.refl _ _)⟩
      · have cell : ∀ (l : List (List UInt8)) (b o : Nat), (∀ i u, (l.map encStr)[i]? = some u → w.cell? ⟨b, o + i, none⟩ = some u) → ∀ j, j < (l.map mkB).length → w.cell? ⟨b, o + j, none⟩ = some (.string ((l.map mkB).getD j ByteArray.empty)) := fun l b o hc j hj => by
          have hj' : j < l.length := by simpa using hj
          rw [rd_cell hc hj']
          simp [List.getD, hj']
        have h := Try.slices_Equal_string b1 o1 l.length c1 b2 o2 m.length c2 (l.map mkB) (m.map mkB) w (by simp) (by simp) (by omega) (by omega) (cell l b1 o1 hc1) (cell m b2 o2 hc2)
        have e : decide ((l.map mkB).take l.length = (m.map mkB).take m.length) = decide (l = m) := by
          rw [List.take_of_length_le (by simp), List.take_of_length_le (by simp), decide_eq_decide]
          constructor
          · intro h
            have h' := congrArg (List.map fun s : ByteArray => s.data.toList) h
            rw [List.map_map, List.map_map] at h'
            have id1 : ∀ l : List (List UInt8), l.map ((fun s : ByteArray => s.data.toList) ∘ mkB) = l := fun l => List.map_id' l
            rwa [id1, id1] at h'
          · rintro rfl; rfl
        rw [e] at h
        exact h.mono fun _ _ ⟨he, q, hw⟩ => ⟨he, Lib.hid (by rw [hw]; exact below_drewN (Below.refl _ _) _)⟩
  · exact (Try.slices_Equal_string_lens a1 a2 l.length c1 m.length c2 w hlen).mono fun _ _ ⟨he, hw⟩ => ⟨by rw [he, decide_eq_false (fun e => hlen (by rw [e]))], Lib.hid (by rw [hw]; exact Below.refl _ _)⟩
set_option maxRecDepth 100000 in
set_option maxHeartbeats 2000000 in
theorem right_any (v : Value) (l : List (List UInt8)) (w : World) (hr : Rd w v l.length (l.map encStr)) (hl : (l.length + 2) * 16 ≤ 140737488355328) (hs : Sized l) :
    Calls Try.prog 13 #[v] w fun e w' => e = .returned (.bool (rightB l)) ∧ Hid (Below w.heap.size w w') := by
  have hr0 := Lib.hid hr
  replace hs := Lib.hid hs
  obtain ⟨ao, cap, rfl, -⟩ := hr
  go_enter Try.func13, Try.ntmps13
  go_wp2_with fail
  go_loopw [9] (fun vk wr => ∃ (k : Nat), vk = .int .i64 k ∧ k ≤ l.length ∧ Hid (∀ f ∈ l.take k, canonL f = some f) ∧ Hid (Below w.heap.size w wr)) (fun vk _ => l.length - (intOf vk).toNat)
  case atStart => exact ⟨0, rfl, Nat.zero_le _, Lib.hid (by simp), Lib.hid (Below.refl _ _)⟩
  case round =>
    obtain ⟨k, rfl, hk, hfix, hb⟩ := hrel
    by_cases hlt : k < l.length
    · obtain ⟨b, o, hao, hbl, hcell⟩ := hr0.out.at_pos (by omega)
      subst hao
      have hcw : wr.cell? ⟨b, o + k, none⟩ = some (.string (mkB l[k])) := (hb.out.cell (p := ⟨b, o + k, none⟩) hbl).trans (rd_cell hcell hlt)
      have hcan := Lib.hid (canon_any (mkB l[k]) (hs.out _ (List.getElem_mem hlt)) wr)
      rw [mkB_list] at hcan
      have hX : Hid ((mkB l[k]).data.toList = l[k]) := Lib.hid rfl
      generalize mkB l[k] = X at hcw hcan hX
      clear hcell
      go_wp2_with fail
      refine hcan.out.mono ?_
      rintro e w2 ⟨u, ok, rfl, hu, hb2⟩
      have hb3 := Lib.hid (hb.out.trans (hb2.out.mono hb.out.size))
      clear hcan hb2
      cases ok
      · have hno : Hid (rightB l = false) := Lib.hid (rightB_not (List.getElem_mem hlt) (by rw [hu.out.1]; simp))
        clear hu
        go_wp2_with fail
        go_ret
        exact ⟨by rw [hno.out]; rfl, hb3⟩
      · have hq : (u.toList == X.toList) = (u.data.toList == l[k]) := by rw [eq_str, hX.out]
        have hu1 : Hid (canonL l[k] = some u.data.toList) := Lib.hid hu.out.1
        clear hu
        cases h : (u.data.toList == l[k])
        · have hno : Hid (rightB l = false) := Lib.hid (rightB_not (List.getElem_mem hlt) (by
            rw [hu1.out]; intro e; rw [Option.some.inj e] at h; simp at h))
          rw [h] at hq
          replace h := Lib.hid h
          go_wp2_with fail
          go_ret
          exact ⟨by rw [hno.out]; rfl, hb3⟩
        · have hn : Hid (∀ f ∈ l.take (k + 1), canonL f = some f) := Lib.hid (by
            intro f hf
            rw [List.take_succ_eq_append_getElem hlt, List.mem_append] at hf
            rcases hf with hf | hf
            · exact hfix.out f hf
            · have : f = l[k] := by simpa using hf
              rw [this, hu1.out, eq_of_beq h])
          rw [h] at hq
          replace h := Lib.hid h
          go_wp2_with fail
          go_roundw
          case rel => exact ⟨k + 1, by go_num, by omega, hn, hb3⟩
          case measure => simp [intOf]; omega
    · have hall : Hid ((l.all fun f => decide (canonL f = some f)) = true) := Lib.hid (by
        have h := hfix.out
        rw [List.take_of_length_le (by omega)] at h
        rw [List.all_eq_true]
        intro f hf
        exact decide_eq_true (h f hf))
      by_cases h16 : l.length ≤ 16
      · have hR : Hid (rightB l = decide (l = fset l)) := Lib.hid (by rw [rightB, hall.out, decide_eq_true h16]; rfl)
        have hrw := Lib.hid (hr0.out.below hb.out)
        go_wp2_with fail
        refine (set_any _ l wr hrw.out (by omega)).mono ?_
        rintro e w2 ⟨v2, rfl, ho2, hb2⟩
        have hb3 := Lib.hid (hb.out.trans (hb2.out.mono hb.out.size))
        have hfl : (fset l).length ≤ l.length := setS_len flt l
        have heq := Lib.hid (equal_any _ v2 l (fset l) w2 (hrw.out.below hb2.out) ho2.out.rd (by omega) (by omega))
        rw [← hR.out] at heq
        clear hb2
        go_wp2_with fail
        refine heq.out.mono ?_
        rintro e w3 ⟨rfl, hb4⟩
        have hb5 := Lib.hid (hb3.out.trans (hb4.out.mono hb3.out.size))
        obtain ⟨B, hB⟩ : ∃ B, Hid (rightB l = B) := ⟨_, Lib.hid rfl⟩
        rw [hB.out]
        go_wp2_with fail
        go_ret
        exact ⟨by rw [hB.out]; rfl, hb5⟩
      · have hR : Hid (rightB l = false) := Lib.hid (by rw [rightB, decide_eq_false h16]; simp)
        go_wp2_with fail
        go_ret
        exact ⟨by rw [hR.out]; rfl, hb⟩
theorem ssorted_snoc {l : List (List UInt8)} {k : Nat} (hk : k + 1 < l.length) (h : SSorted flt (l.take (k + 1))) (hlt : flt l[k] l[k + 1] = true) : SSorted flt (l.take (k + 2)) := by
  rw [List.take_succ_eq_append_getElem hk]
  refine List.pairwise_append.2 ⟨h, List.pairwise_singleton _ _, fun a ha b hb => ?_⟩
  have hb' : b = l[k + 1] := by simpa using hb
  subst hb'
  rw [List.take_succ_eq_append_getElem (show k < l.length by omega)] at h ha
  rcases List.mem_append.1 ha with ha | ha
  · exact flt_sto.trans _ _ _ ((List.pairwise_append.1 h).2.2 a ha l[k] (by simp)) hlt
  · have : a = l[k] := by simpa using ha
    rw [this]; exact hlt
theorem not_ssorted {l : List (List UInt8)} {k : Nat} (hk : k + 1 < l.length) (hlt : flt l[k] l[k + 1] = false) : ¬ SSorted flt l := fun h => by
  have := List.pairwise_iff_getElem.1 h k (k + 1) (by omega) hk (by omega)
  rw [hlt] at this; cases this
set_option maxRecDepth 100000 in
set_option maxHeartbeats 2000000 in
theorem refRight_any (v : Value) (l : List (List UInt8)) (w : World) (hr : Rd w v l.length (l.map encStr)) (hl : (l.length + 2) * 16 ≤ 140737488355328) (hs : Sized l) :
    Calls Try.prog 16 #[v] w fun e w' => e = .returned (.bool (rightB l)) ∧ Hid (Below w.heap.size w w') := by
  have hr0 := Lib.hid hr
  replace hs := Lib.hid hs
  obtain ⟨ao, cap, rfl, -⟩ := hr
  go_enter Try.func16, Try.ntmps16
  go_wp2_with fail
  go_loopw [3] (fun vk wr => ∃ (k : Nat), vk = .int .i64 k ∧ k ≤ l.length ∧ Hid (∀ f ∈ l.take k, canonL f = some f) ∧ Hid (SSorted flt (l.take k)) ∧ Hid (Below w.heap.size w wr)) (fun vk _ => l.length - (intOf vk).toNat)
  case atStart => exact ⟨0, rfl, Nat.zero_le _, Lib.hid (by simp), Lib.hid List.Pairwise.nil, Lib.hid (Below.refl _ _)⟩
  case round =>
    obtain ⟨k, rfl, hk, hfix, hsrt, hb⟩ := hrel
    by_cases hlt : k < l.length
    · obtain ⟨b, o, hao, hbl, hcell⟩ := hr0.out.at_pos (by omega)
      subst hao
      have hc : ∀ wz j (hj : j < l.length), Below w.heap.size w wz → wz.cell? ⟨b, o + j, none⟩ = some (.string (mkB l[j])) := fun wz j hj hz => (hz.cell (p := ⟨b, o + j, none⟩) hbl).trans (rd_cell hcell hj)
      have hcw := hc wr k hlt hb.out
      replace hc := Lib.hid hc
      have hcan := Lib.hid (refCanon_any (mkB l[k]) (hs.out _ (List.getElem_mem hlt)) wr)
      rw [mkB_list] at hcan
      clear hcell
      obtain ⟨X, hX⟩ : ∃ X, Hid (mkB l[k] = X) := ⟨_, Lib.hid rfl⟩
      have hXl : Hid (X.data.toList = l[k]) := Lib.hid (by rw [← hX.out, mkB_list])
      rw [hX.out] at hcw hcan
      go_wp2_with fail
      refine hcan.out.mono ?_
      rintro e w2 ⟨u, ok, rfl, hu, hb2⟩
      have hb3 := Lib.hid (hb.out.trans (hb2.out.mono hb.out.size))
      have hcw2 : w2.cell? ⟨b, o + k, none⟩ = some (.string X) := by rw [← hX.out]; exact hc.out w2 k hlt hb3.out
      clear hcan hb2
      cases ok
      · have hno : Hid (rightB l = false) := Lib.hid (rightB_not (List.getElem_mem hlt) (by rw [hu.out.1]; simp))
        clear hu
        go_wp2_with fail
        go_quiet (fail)
        go_wp2_with fail
        go_ret
        exact ⟨by rw [hno.out]; rfl, Lib.hid (below_drewN hb3.out _)⟩
      · have hq : (u.toList == X.toList) = (u.data.toList == l[k]) := by rw [eq_str, hXl.out]
        have hu1 : Hid (canonL l[k] = some u.data.toList) := Lib.hid hu.out.1
        clear hu
        cases h : (u.data.toList == l[k])
        · have hno : Hid (rightB l = false) := Lib.hid (rightB_not (List.getElem_mem hlt) (by
            rw [hu1.out]; intro e; rw [Option.some.inj e] at h; simp at h))
          rw [h] at hq
          replace h := Lib.hid h
          go_wp2_with fail
          go_quiet (fail)
          go_wp2_with fail
          go_ret
          exact ⟨by rw [hno.out]; rfl, Lib.hid (below_drewN hb3.out _)⟩
        · have hn : Hid (∀ f ∈ l.take (k + 1), canonL f = some f) := Lib.hid (by
            intro f hf
            rw [List.take_succ_eq_append_getElem hlt, List.mem_append] at hf
            rcases hf with hf | hf
            · exact hfix.out f hf
            · have : f = l[k] := by simpa using hf
              rw [this, hu1.out, eq_of_beq h])
          rw [h] at hq
          replace h := Lib.hid h
          rcases Nat.eq_zero_or_pos k with hk0 | hk0
          · have hso : Hid (SSorted flt (l.take (k + 1))) := Lib.hid (by
              subst hk0
              rw [List.take_succ_eq_append_getElem hlt]; exact List.pairwise_singleton _ _)
            subst hk0
            have hl0 : (0 : Int) < (l.length : Int) := by omega
            have hcw0 : w2.cell? ⟨b, o, none⟩ = some (.string X) := hcw2
            go_wp2_with fail
            go_quiet (fail)
            go_wp2_with fail
            go_roundw
            case rel => exact ⟨1, by go_num, by omega, hn, hso, Lib.hid (below_drewN hb3.out _)⟩
            case measure => simp [intOf]; omega
          · obtain ⟨j, rfl⟩ : ∃ j, k = j + 1 := ⟨k - 1, by omega⟩
            have hjl : j < l.length := by omega
            have hcp := hc.out w2 j hjl hb3.out
            obtain ⟨Y, hY⟩ : ∃ Y, Hid (mkB l[j] = Y) := ⟨_, Lib.hid rfl⟩
            have hYl : Hid (Y.data.toList = l[j]) := Lib.hid (by rw [← hY.out, mkB_list])
            rw [hY.out] at hcp
            have hless : ∀ n, Calls Try.prog 32 #[.string Y, .string X] (w2.drewN n) fun e w' => e = .returned (.bool (flt l[j] l[j + 1])) ∧ w' = w2.drewN n := fun n => (refLess_any Y X (w2.drewN n)).mono fun _ _ ⟨h1, h2⟩ => ⟨by rw [h1, hYl.out, hXl.out], h2.symm⟩
            have hs1 : Hid (flt l[j] l[j + 1] = true → SSorted flt (l.take (j + 1 + 1))) := Lib.hid (fun h => ssorted_snoc hlt hsrt.out h)
            have hs2 : Hid (flt l[j] l[j + 1] = false → rightB l = false) := Lib.hid (fun h => by
              cases hR : rightB l
              · rfl
              · exact absurd ((rightB_iff l).1 hR).2.2 (not_ssorted hlt h))
            replace hless := Lib.hid hless
            have hjp : (0 : Int) < (j : Int) + 1 := by omega
            have hjp1 : decide ((0 : Int) < (j : Int) + 1) = true := decide_eq_true hjp
            cases hf : flt l[j] l[j + 1]
            · have hno := Lib.hid (hs2.out hf)
              rw [hf] at hless
              replace hf := Lib.hid hf
              clear hs1 hs2
              go_wp2_with fail
              go_quiet ((go_at_call 32; exact Calls.quiet_of_same (hless.out _)))
              go_wp2_with fail
              go_ret
              exact ⟨by rw [hno.out]; rfl, Lib.hid (below_drewN hb3.out _)⟩
            · have hso := Lib.hid (hs1.out hf)
              rw [hf] at hless
              replace hf := Lib.hid hf
              clear hs1 hs2
              go_wp2_with fail
              go_quiet ((go_at_call 32; exact Calls.quiet_of_same (hless.out _)))
              go_wp2_with fail
              go_roundw
              case rel => exact ⟨j + 1 + 1, by go_num, by omega, hn, hso, Lib.hid (below_drewN hb3.out _)⟩
              case measure => simp [intOf]; omega
    · have hRR : Hid (rightB l = decide ((l.length : Int) ≤ 16)) := Lib.hid (by
        rw [show decide ((l.length : Int) ≤ 16) = decide (l.length ≤ 16) by rw [decide_eq_decide]; omega]
        have h1 := hfix.out
        have h2 := hsrt.out
        rw [List.take_of_length_le (by omega)] at h1 h2
        by_cases h16 : l.length ≤ 16
        · rw [decide_eq_true h16]; exact (rightB_iff l).2 ⟨h1, h16, h2⟩
        · rw [decide_eq_false h16, rightB, decide_eq_false h16]; simp)
      go_wp2_with fail
      go_ret
      exact ⟨by rw [hRR.out]; rfl, hb⟩
end Go.Proofs.Ytfglfoapgpghkaa
