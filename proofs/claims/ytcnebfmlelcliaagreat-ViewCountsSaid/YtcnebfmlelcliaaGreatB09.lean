/- Has, Right of both, great: walked. great letters; the laws FlagNames and FlagOnce: walked. The law FlagOnce: walked. Lists put together (slices.Concat), lists without (slices.DeleteFunc): the three changes of the layer flag. slices.Grow and slices.Concat of two lists of texts; 'with'. Change, of the program and of the document. The document's Change: walked. -/
import Derived.Test.YtcnebfmlelcliaaGreatB08
import Derived.Lib.AppendZeros
import Derived.Laws.EntriesVeiled
namespace Go.Proofs.YtcnebfmlelcliaaGreat
open Go.RowKit

/-- is a list a set of flags? -/
def rightB (l : List (List UInt8)) : Bool := (l.all fun f => decide (canonL f = some f)) && (decide (l.length ≤ 16) && decide (l = fset l))
theorem rightB_iff (l : List (List UInt8)) : rightB l = true ↔ (∀ f ∈ l, canonL f = some f) ∧ l.length ≤ 16 ∧ SSorted flt l := by
  rw [rightB]
  simp only [Bool.and_eq_true, List.all_eq_true, decide_eq_true_eq]
  constructor
  · rintro ⟨h1, h2, h3⟩; exact ⟨h1, h2, by rw [h3]; exact sorted_setS flt_sto l⟩
  · rintro ⟨h1, h2, h3⟩; exact ⟨h1, h2, (setS_of_sorted flt_sto l h3).symm⟩
theorem rightB_not {l : List (List UInt8)} {f : List UInt8} (hf : f ∈ l) (hn : canonL f ≠ some f) : rightB l = false := by
  cases h : rightB l
  · rfl
  · exact absurd (((rightB_iff l).1 h).1 f hf) hn
set_option maxHeartbeats 1000000 in
theorem has_any (v : Value) (l : List (List UInt8)) (f : ByteArray) (w : World) (hr : Rd w v l.length (l.map encStr)) (hl : l.length * 16 ≤ 140737488355328) :
    Calls Tryz.prog 76 #[v, .string f] w fun e w' => e = .returned (.bool (decide (f.data.toList ∈ l))) ∧ w = w' := by
  have hc : Calls Tryz.prog 104 #[v, .string f] w fun e w' => e = .returned (.bool (decide (f.data.toList ∈ l))) ∧ w = w' := by
    obtain ⟨ao, cap, rfl, h⟩ := hr
    rcases h with h | ⟨b, o, rfl, hb, hle, hc⟩
    · obtain rfl := List.eq_nil_of_length_eq_zero h
      exact (Tryz.slices_Contains_string_empty ao cap f w).mono fun _ _ ⟨he, hw⟩ => ⟨by rw [he]; simp, hw.symm⟩
    · have h := Tryz.slices_Contains_string b o l.length cap (l.map mkB) f w (by simp) (by omega) (fun j hj => by
        have hj' : j < l.length := by simpa using hj
        rw [rd_cell hc hj']
        simp [List.getD, hj'])
      have e : Lib.containsS ((l.map mkB).take l.length) f = decide (f.data.toList ∈ l) := by
        rw [Bool.eq_iff_iff, Lib.containsS_iff, List.take_of_length_le (by simp), decide_eq_true_eq, List.mem_map]
        constructor
        · rintro ⟨x, hx, rfl⟩; exact hx
        · intro hx; exact ⟨_, hx, rfl⟩
      rw [e] at h
      exact h.mono fun _ _ ⟨he, hw⟩ => ⟨he, hw.symm⟩
  replace hc := Lib.hid hc
  generalize decide (f.data.toList ∈ l) = B at hc ⊢
  clear hr
  go_enter Tryz.func76, Tryz.ntmps76
  go_wp2_with fail
  refine hc.out.mono ?_
  rintro e w' ⟨rfl, rfl⟩
  go_wp2_with fail
  go_ret
  exact ⟨rfl, rfl⟩
/-- slices.Equal of two lists of texts -/
theorem equal_any (v1 v2 : Value) (l m : List (List UInt8)) (w : World) (h1 : Rd w v1 l.length (l.map encStr)) (h2 : Rd w v2 m.length (m.map encStr)) (hl : l.length * 16 ≤ 140737488355328) (hm : m.length * 16 ≤ 140737488355328) :
    Calls Tryz.prog 74 #[v1, v2] w fun e w' => e = .returned (.bool (decide (l = m))) ∧ Hid (Below w.heap.size w w') := by
  obtain ⟨a1, c1, rfl, h1⟩ := h1
  obtain ⟨a2, c2, rfl, h2⟩ := h2
  by_cases hlen : l.length = m.length
  · rcases h1 with h1 | ⟨b1, o1, rfl, hb1, hle1, hc1⟩
    · obtain rfl := List.eq_nil_of_length_eq_zero h1
      have hm0 : m = [] := List.eq_nil_of_length_eq_zero (by rw [← hlen]; rfl)
      subst hm0
      exact (Tryz.slices_Equal_string_empty a1 a2 c1 0 c2 w (by omega)).mono fun _ _ ⟨he, hw⟩ => ⟨he, Lib.hid (by rw [hw]; exact Below.refl _ _)⟩
    · rcases h2 with h2 | ⟨b2, o2, rfl, hb2, hle2, hc2⟩
      · have hm0 : m = [] := List.eq_nil_of_length_eq_zero h2
        subst hm0
        have hl0 : l = [] := List.eq_nil_of_length_eq_zero (by rw [hlen]; rfl)
        subst hl0
        exact (Tryz.slices_Equal_string_empty _ a2 c1 0 c2 w (by omega)).mono fun _ _ ⟨he, hw⟩ => ⟨he, Lib.hid (by rw [hw]; exact Below.refl _ _)⟩
      · have cell : ∀ (l : List (List UInt8)) (b o : Nat), (∀ i u, (l.map encStr)[i]? = some u → w.cell? ⟨b, o + i, none⟩ = some u) → ∀ j, j < (l.map mkB).length → w.cell? ⟨b, o + j, none⟩ = some (.string ((l.map mkB).getD j ByteArray.empty)) := fun l b o hc j hj => by
          have hj' : j < l.length := by simpa using hj
          rw [rd_cell hc hj']
          simp [List.getD, hj']
        have h := Tryz.slices_Equal_string b1 o1 l.length c1 b2 o2 m.length c2 (l.map mkB) (m.map mkB) w (by simp) (by simp) (by omega) (by omega) (cell l b1 o1 hc1) (cell m b2 o2 hc2)
        have e : decide ((l.map mkB).take l.length = (m.map mkB).take m.length) = decide (l = m) := by
          rw [List.take_of_length_le (by simp), List.take_of_length_le (by simp), decide_eq_decide]
          constructor
          · intro h
            have h' := congrArg (List.map fun s : ByteArray => s.data.toList) h
            rw [List.map_map, List.map_map] at h'
            have id1 : ∀ l : List (List UInt8), l.map ((fun s : ByteArray => s.data.toList) ∘ mkB) = l := fun l => List.map_id' l
            rwa [id1, id1] at h'
          · rintro rfl; rfl
        rw [e] at h
        exact h.mono fun _ _ ⟨he, q, hw⟩ => ⟨he, Lib.hid (by rw [hw]; exact below_drewN (Below.refl _ _) _)⟩
  · exact (Tryz.slices_Equal_string_lens a1 a2 l.length c1 m.length c2 w hlen).mono fun _ _ ⟨he, hw⟩ => ⟨by rw [he, decide_eq_false (fun e => hlen (by rw [e]))], Lib.hid (by rw [hw]; exact Below.refl _ _)⟩
set_option maxRecDepth 100000 in
set_option maxHeartbeats 2000000 in
theorem right_any (v : Value) (l : List (List UInt8)) (w : World) (hr : Rd w v l.length (l.map encStr)) (hl : (l.length + 2) * 16 ≤ 140737488355328) (hs : Sized l) :
    Calls Tryz.prog 70 #[v] w fun e w' => e = .returned (.bool (rightB l)) ∧ Hid (Below w.heap.size w w') := by
  have hr0 := Lib.hid hr
  replace hs := Lib.hid hs
  obtain ⟨ao, cap, rfl, -⟩ := hr
  go_enter Tryz.func70, Tryz.ntmps70
  go_wp2_with fail
  go_loopw [9] (fun vk wr => ∃ (k : Nat), vk = .int .i64 k ∧ k ≤ l.length ∧ Hid (∀ f ∈ l.take k, canonL f = some f) ∧ Hid (Below w.heap.size w wr)) (fun vk _ => l.length - (intOf vk).toNat)
  case atStart => exact ⟨0, rfl, Nat.zero_le _, Lib.hid (by simp), Lib.hid (Below.refl _ _)⟩
  case round =>
    obtain ⟨k, rfl, hk, hfix, hb⟩ := hrel
    by_cases hlt : k < l.length
    · obtain ⟨b, o, hao, hbl, hcell⟩ := hr0.out.at_pos (by omega)
      subst hao
      have hcw : wr.cell? ⟨b, o + k, none⟩ = some (.string (mkB l[k])) := (hb.out.cell (p := ⟨b, o + k, none⟩) hbl).trans (rd_cell hcell hlt)
      have hcan := Lib.hid (canon_any (mkB l[k]) (hs.out _ (List.getElem_mem hlt)) wr)
      rw [mkB_list] at hcan
      have hX : Hid ((mkB l[k]).data.toList = l[k]) := Lib.hid rfl
      generalize mkB l[k] = X at hcw hcan hX
      clear hcell
      go_wp2_with fail
      refine hcan.out.mono ?_
      rintro e w2 ⟨u, ok, rfl, hu, hb2⟩
      have hb3 := Lib.hid (hb.out.trans (hb2.out.mono hb.out.size))
      clear hcan hb2
      cases ok
      · have hno : Hid (rightB l = false) := Lib.hid (rightB_not (List.getElem_mem hlt) (by rw [hu.out.1]; simp))
        clear hu
        go_wp2_with fail
        go_ret
        exact ⟨by rw [hno.out]; rfl, hb3⟩
      · have hq : (u.toList == X.toList) = (u.data.toList == l[k]) := by rw [eq_str, hX.out]
        have hu1 : Hid (canonL l[k] = some u.data.toList) := Lib.hid hu.out.1
        clear hu
        cases h : (u.data.toList == l[k])
        · have hno : Hid (rightB l = false) := Lib.hid (rightB_not (List.getElem_mem hlt) (by
            rw [hu1.out]; intro e; rw [Option.some.inj e] at h; simp at h))
          rw [h] at hq
          replace h := Lib.hid h
          go_wp2_with fail
          go_ret
          exact ⟨by rw [hno.out]; rfl, hb3⟩
        · have hn : Hid (∀ f ∈ l.take (k + 1), canonL f = some f) := Lib.hid (by
            intro f hf
            rw [List.take_succ_eq_append_getElem hlt, List.mem_append] at hf
            rcases hf with hf | hf
            · exact hfix.out f hf
            · have : f = l[k] := by simpa using hf
              rw [this, hu1.out, eq_of_beq h])
          rw [h] at hq
          replace h := Lib.hid h
          go_wp2_with fail
          go_roundw
          case rel => exact ⟨k + 1, by go_num, by omega, hn, hb3⟩
          case measure => simp [intOf]; omega
    · have hall : Hid ((l.all fun f => decide (canonL f = some f)) = true) := Lib.hid (by
        have h := hfix.out
        rw [List.take_of_length_le (by omega)] at h
        rw [List.all_eq_true]
        intro f hf
        exact decide_eq_true (h f hf))
      by_cases h16 : l.length ≤ 16
      · have hR : Hid (rightB l = decide (l = fset l)) := Lib.hid (by rw [rightB, hall.out, decide_eq_true h16]; rfl)
        have hrw := Lib.hid (hr0.out.below hb.out)
        go_wp2_with fail
        refine (set_any _ l wr hrw.out (by omega)).mono ?_
        rintro e w2 ⟨v2, rfl, ho2, hb2⟩
        have hb3 := Lib.hid (hb.out.trans (hb2.out.mono hb.out.size))
        have hfl : (fset l).length ≤ l.length := setS_len flt l
        have heq := Lib.hid (equal_any _ v2 l (fset l) w2 (hrw.out.below hb2.out) ho2.out.rd (by omega) (by omega))
        rw [← hR.out] at heq
        clear hb2
        go_wp2_with fail
        refine heq.out.mono ?_
        rintro e w3 ⟨rfl, hb4⟩
        have hb5 := Lib.hid (hb3.out.trans (hb4.out.mono hb3.out.size))
        obtain ⟨B, hB⟩ : ∃ B, Hid (rightB l = B) := ⟨_, Lib.hid rfl⟩
        rw [hB.out]
        go_wp2_with fail
        go_ret
        exact ⟨by rw [hB.out]; rfl, hb5⟩
      · have hR : Hid (rightB l = false) := Lib.hid (by rw [rightB, decide_eq_false h16]; simp)
        go_wp2_with fail
        go_ret
        exact ⟨by rw [hR.out]; rfl, hb⟩
theorem ssorted_snoc {l : List (List UInt8)} {k : Nat} (hk : k + 1 < l.length) (h : SSorted flt (l.take (k + 1))) (hlt : flt l[k] l[k + 1] = true) : SSorted flt (l.take (k + 2)) := by
  rw [List.take_succ_eq_append_getElem hk]
  refine List.pairwise_append.2 ⟨h, List.pairwise_singleton _ _, fun a ha b hb => ?_⟩
  have hb' : b = l[k + 1] := by simpa using hb
  subst hb'
  rw [List.take_succ_eq_append_getElem (show k < l.length by omega)] at h ha
  rcases List.mem_append.1 ha with ha | ha
  · exact flt_sto.trans _ _ _ ((List.pairwise_append.1 h).2.2 a ha l[k] (by simp)) hlt
  · have : a = l[k] := by simpa using ha
    rw [this]; exact hlt
theorem not_ssorted {l : List (List UInt8)} {k : Nat} (hk : k + 1 < l.length) (hlt : flt l[k] l[k + 1] = false) : ¬ SSorted flt l := fun h => by
  have := List.pairwise_iff_getElem.1 h k (k + 1) (by omega) hk (by omega)
  rw [hlt] at this; cases this
set_option maxRecDepth 100000 in
set_option maxHeartbeats 2000000 in
theorem refRight_any (v : Value) (l : List (List UInt8)) (w : World) (hr : Rd w v l.length (l.map encStr)) (hl : (l.length + 2) * 16 ≤ 140737488355328) (hs : Sized l) :
    Calls Tryz.prog 53 #[v] w fun e w' => e = .returned (.bool (rightB l)) ∧ Hid (Below w.heap.size w w') := by
  have hr0 := Lib.hid hr
  replace hs := Lib.hid hs
  obtain ⟨ao, cap, rfl, -⟩ := hr
  go_enter Tryz.func53, Tryz.ntmps53
  go_wp2_with fail
  go_loopw [3] (fun vk wr => ∃ (k : Nat), vk = .int .i64 k ∧ k ≤ l.length ∧ Hid (∀ f ∈ l.take k, canonL f = some f) ∧ Hid (SSorted flt (l.take k)) ∧ Hid (Below w.heap.size w wr)) (fun vk _ => l.length - (intOf vk).toNat)
  case atStart => exact ⟨0, rfl, Nat.zero_le _, Lib.hid (by simp), Lib.hid List.Pairwise.nil, Lib.hid (Below.refl _ _)⟩
  case round =>
    obtain ⟨k, rfl, hk, hfix, hsrt, hb⟩ := hrel
    by_cases hlt : k < l.length
    · obtain ⟨b, o, hao, hbl, hcell⟩ := hr0.out.at_pos (by omega)
      subst hao
      have hc : ∀ wz j (hj : j < l.length), Below w.heap.size w wz → wz.cell? ⟨b, o + j, none⟩ = some (.string (mkB l[j])) := fun wz j hj hz => (hz.cell (p := ⟨b, o + j, none⟩) hbl).trans (rd_cell hcell hj)
      have hcw := hc wr k hlt hb.out
      replace hc := Lib.hid hc
      have hcan := Lib.hid (refCanon_any (mkB l[k]) (hs.out _ (List.getElem_mem hlt)) wr)
      rw [mkB_list] at hcan
      clear hcell
      obtain ⟨X, hX⟩ : ∃ X, Hid (mkB l[k] = X) := ⟨_, Lib.hid rfl⟩
      have hXl : Hid (X.data.toList = l[k]) := Lib.hid (by rw [← hX.out, mkB_list])
      rw [hX.out] at hcw hcan
      go_wp2_with fail
      refine hcan.out.mono ?_
      rintro e w2 ⟨u, ok, rfl, hu, hb2⟩
      have hb3 := Lib.hid (hb.out.trans (hb2.out.mono hb.out.size))
      have hcw2 : w2.cell? ⟨b, o + k, none⟩ = some (.string X) := by rw [← hX.out]; exact hc.out w2 k hlt hb3.out
      clear hcan hb2
      cases ok
      · have hno : Hid (rightB l = false) := Lib.hid (rightB_not (List.getElem_mem hlt) (by rw [hu.out.1]; simp))
        clear hu
        go_wp2_with fail
        go_quiet (fail)
        go_wp2_with fail
        go_ret
        exact ⟨by rw [hno.out]; rfl, Lib.hid (below_drewN hb3.out _)⟩
      · have hq : (u.toList == X.toList) = (u.data.toList == l[k]) := by rw [eq_str, hXl.out]
        have hu1 : Hid (canonL l[k] = some u.data.toList) := Lib.hid hu.out.1
        clear hu
        cases h : (u.data.toList == l[k])
        · have hno : Hid (rightB l = false) := Lib.hid (rightB_not (List.getElem_mem hlt) (by
            rw [hu1.out]; intro e; rw [Option.some.inj e] at h; simp at h))
          rw [h] at hq
          replace h := Lib.hid h
          go_wp2_with fail
          go_quiet (fail)
          go_wp2_with fail
          go_ret
          exact ⟨by rw [hno.out]; rfl, Lib.hid (below_drewN hb3.out _)⟩
        · have hn : Hid (∀ f ∈ l.take (k + 1), canonL f = some f) := Lib.hid (by
            intro f hf
            rw [List.take_succ_eq_append_getElem hlt, List.mem_append] at hf
            rcases hf with hf | hf
            · exact hfix.out f hf
            · have : f = l[k] := by simpa using hf
              rw [this, hu1.out, eq_of_beq h])
          rw [h] at hq
          replace h := Lib.hid h
          rcases Nat.eq_zero_or_pos k with hk0 | hk0
          · have hso : Hid (SSorted flt (l.take (k + 1))) := Lib.hid (by
              subst hk0
              rw [List.take_succ_eq_append_getElem hlt]; exact List.pairwise_singleton _ _)
            subst hk0
            have hl0 : (0 : Int) < (l.length : Int) := by omega
            have hcw0 : w2.cell? ⟨b, o, none⟩ = some (.string X) := hcw2
            go_wp2_with fail
            go_quiet (fail)
            go_wp2_with fail
            go_roundw
            case rel => exact ⟨1, by go_num, by omega, hn, hso, Lib.hid (below_drewN hb3.out _)⟩
            case measure => simp [intOf]; omega
          · obtain ⟨j, rfl⟩ : ∃ j, k = j + 1 := ⟨k - 1, by omega⟩
            have hjl : j < l.length := by omega
            have hcp := hc.out w2 j hjl hb3.out
            obtain ⟨Y, hY⟩ : ∃ Y, Hid (mkB l[j] = Y) := ⟨_, Lib.hid rfl⟩
            have hYl : Hid (Y.data.toList = l[j]) := Lib.hid (by rw [← hY.out, mkB_list])
            rw [hY.out] at hcp
            have hless : ∀ n, Calls Tryz.prog 85 #[.string Y, .string X] (w2.drewN n) fun e w' => e = .returned (.bool (flt l[j] l[j + 1])) ∧ w' = w2.drewN n := fun n => (refLess_any Y X (w2.drewN n)).mono fun _ _ ⟨h1, h2⟩ => ⟨by rw [h1, hYl.out, hXl.out], h2.symm⟩
            have hs1 : Hid (flt l[j] l[j + 1] = true → SSorted flt (l.take (j + 1 + 1))) := Lib.hid (fun h => ssorted_snoc hlt hsrt.out h)
            have hs2 : Hid (flt l[j] l[j + 1] = false → rightB l = false) := Lib.hid (fun h => by
              cases hR : rightB l
              · rfl
              · exact absurd ((rightB_iff l).1 hR).2.2 (not_ssorted hlt h))
            replace hless := Lib.hid hless
            have hjp : (0 : Int) < (j : Int) + 1 := by omega
            have hjp1 : decide ((0 : Int) < (j : Int) + 1) = true := decide_eq_true hjp
            cases hf : flt l[j] l[j + 1]
            · have hno := Lib.hid (hs2.out hf)
              rw [hf] at hless
              replace hf := Lib.hid hf
              clear hs1 hs2
              go_wp2_with fail
              go_quiet ((go_at_call 85; exact Calls.quiet_of_same (hless.out _)))
              go_wp2_with fail
              go_ret
              exact ⟨by rw [hno.out]; rfl, Lib.hid (below_drewN hb3.out _)⟩
            · have hso := Lib.hid (hs1.out hf)
              rw [hf] at hless
              replace hf := Lib.hid hf
              clear hs1 hs2
              go_wp2_with fail
              go_quiet ((go_at_call 85; exact Calls.quiet_of_same (hless.out _)))
              go_wp2_with fail
              go_roundw
              case rel => exact ⟨j + 1 + 1, by go_num, by omega, hn, hso, Lib.hid (below_drewN hb3.out _)⟩
              case measure => simp [intOf]; omega
    · have hRR : Hid (rightB l = decide ((l.length : Int) ≤ 16)) := Lib.hid (by
        rw [show decide ((l.length : Int) ≤ 16) = decide (l.length ≤ 16) by rw [decide_eq_decide]; omega]
        have h1 := hfix.out
        have h2 := hsrt.out
        rw [List.take_of_length_le (by omega)] at h1 h2
        by_cases h16 : l.length ≤ 16
        · rw [decide_eq_true h16]; exact (rightB_iff l).2 ⟨h1, h16, h2⟩
        · rw [decide_eq_false h16, rightB, decide_eq_false h16]; simp)
      go_wp2_with fail
      go_ret
      exact ⟨by rw [hRR.out]; rfl, hb⟩
end Go.Proofs.YtcnebfmlelcliaaGreat
namespace Go.Proofs.YtcnebfmlelcliaaGreat
open Go.RowKit

/- what is kept of what is kept -/
theorem byte_all (p : UInt8 → Bool) (h : ∀ n, n < 256 → p (UInt8.ofNat n) = true) (b : UInt8) : p b = true := by
  have := h b.toNat b.toNat_lt
  rwa [UInt8.ofNat_toNat] at this
theorem up_low (b : UInt8) : upB (lowB b) = upB b := by simpa using byte_all (fun b => upB (lowB b) == upB b) (by decide +kernel) b
theorem up_up (b : UInt8) : upB (upB b) = upB b := by simpa using byte_all (fun b => upB (upB b) == upB b) (by decide +kernel) b
theorem low_low (b : UInt8) : lowB (lowB b) = lowB b := by simpa using byte_all (fun b => lowB (lowB b) == lowB b) (by decide +kernel) b
theorem low_up (b : UInt8) : lowB (upB b) = lowB b := by simpa using byte_all (fun b => lowB (upB b) == lowB b) (by decide +kernel) b
theorem atom_low (b : UInt8) : atomB (lowB b).toNat = atomB b.toNat := by simpa using byte_all (fun b => atomB (lowB b).toNat == atomB b.toNat) (by decide +kernel) b
theorem atom_up (b : UInt8) : atomB (upB b).toNat = atomB b.toNat := by simpa using byte_all (fun b => atomB (upB b).toNat == atomB b.toNat) (by decide +kernel) b
theorem upL_low (l : List UInt8) : upL (lowL l) = upL l := by simp [upL, lowL, up_low]
theorem upL_up (l : List UInt8) : upL (upL l) = upL l := by simp [upL, up_up]
theorem lowL_low (l : List UInt8) : lowL (lowL l) = lowL l := by simp [lowL, low_low]
theorem lowL_up (l : List UInt8) : lowL (upL l) = lowL l := by simp [upL, lowL, low_up]
theorem keyB_map (g : UInt8 → UInt8) (hg : ∀ b, atomB (g b).toNat = atomB b.toNat) (l : List UInt8) : keyB (l.map g) = keyB l := by
  have h1 : allB atomB (l.map g) = allB atomB l := by
    induction l with
    | nil => rfl
    | cons x r ih =>
      have e : ∀ (y : UInt8) (m : List UInt8), allB atomB (y :: m) = (atomB y.toNat && allB atomB m) := fun _ _ => rfl
      rw [List.map_cons, e, e, ih, hg]
  have h2 : (l.map g).isEmpty = l.isEmpty := by cases l <;> rfl
  rw [keyB, keyB, allS, allS, h1, h2, List.length_map]
theorem sys_find {s f : List UInt8} (h : sysL.find? (fun f => upL f == upL s) = some f) : f ∈ sysL := List.mem_of_find?_eq_some h
theorem sys_canon : ∀ f ∈ sysL, canonL f = some f ∧ canonL (upL f) = some f ∧ f.length ≤ 32 := by decide +kernel
theorem canonL_up {s c : List UInt8} (h : canonL s = some c) : canonL c = some c ∧ canonL (upL c) = some c ∧ c.length ≤ 32 := by
  unfold canonL at h
  cases hf : sysL.find? (fun f => upL f == upL s) with
  | some f =>
    rw [hf] at h
    have : f = c := Option.some.inj h
    subst this
    exact sys_canon f (sys_find hf)
  | none =>
    rw [hf] at h
    by_cases hk : keyB s = true
    · simp only [hk, if_true] at h
      have hc : lowL s = c := Option.some.inj h
      subst hc
      have hk1 : keyB (lowL s) = true := (keyB_map lowB atom_low s).trans hk
      have hk2 : keyB (upL (lowL s)) = true := (keyB_map upB atom_up _).trans hk1
      refine ⟨?_, ?_, ?_⟩
      · unfold canonL; rw [upL_low, hf]; simp only [hk1, if_true, lowL_low]
      · unfold canonL; rw [upL_up, upL_low, hf]; rw [upL_low] at hk2; simp only [hk2, if_true, lowL_up]
      · have h3 := hk1
        rw [keyB, Bool.and_eq_true] at h3
        exact of_decide_eq_true h3.2
    · simp only [hk] at h; cases h
theorem canonAll_mem : ∀ (l cs : List (List UInt8)), canonAll l = some cs → ∀ c ∈ cs, ∃ s, canonL s = some c
  | [], cs, h, c, hc => by simp [canonAll] at h; subst h; cases hc
  | x :: r, cs, h, c, hc => by
    rw [canonAll] at h
    cases hx : canonL x with
    | none => rw [hx] at h; cases h
    | some a =>
      rw [hx] at h
      cases hr : canonAll r with
      | none => rw [hr] at h; cases h
      | some y =>
        rw [hr] at h
        obtain rfl := Option.some.inj h
        rcases List.mem_cons.1 hc with rfl | hc
        · exact ⟨x, hx⟩
        · exact canonAll_mem r y hr c hc
theorem canonAll_fix (g : List UInt8 → List UInt8) : ∀ l : List (List UInt8), (∀ c ∈ l, canonL (g c) = some c) → canonAll (l.map g) = some l
  | [], _ => rfl
  | x :: r, h => by
    rw [List.map_cons, canonAll, h x (by simp), canonAll_fix g r (fun c hc => h c (by simp [hc]))]; rfl
theorem code_cases (l : List (List UInt8)) : makeCode l = 4 ∨ makeCode l = 7 ∨ makeCode l = 0 := by
  rw [makeCode]; split
  · exact .inl rfl
  · split
    · exact .inr (.inl rfl)
    · exact .inr (.inr rfl)
theorem set_empty {l : List (List UInt8)} (h : makeCode l ≠ 0) : makeSet l = [] := by
  rw [makeCode] at h; rw [makeSet]
  split
  · rfl
  · rename_i cs hc
    rw [hc] at h
    split
    · rfl
    · rename_i hn; simp only [if_neg hn] at h; exact absurd rfl h
theorem set_made {l : List (List UInt8)} (h : makeCode l = 0) : ∃ cs, canonAll l = some cs ∧ makeSet l = fset cs ∧ (fset cs).length ≤ 16 := by
  rw [makeCode] at h
  cases hc : canonAll l with
  | none => rw [hc] at h; cases h
  | some cs =>
    rw [hc] at h
    by_cases hn : 16 < (fset cs).length
    · simp only [if_pos hn] at h; cases h
    · refine ⟨cs, rfl, ?_, by omega⟩
      rw [makeSet, hc]; simp only [if_neg hn]
theorem made_right {l : List (List UInt8)} (h : makeCode l = 0) : rightB (makeSet l) = true := by
  obtain ⟨cs, hc, hm, h16⟩ := set_made h
  rw [hm]
  refine (rightB_iff _).2 ⟨fun f hf => ?_, h16, sorted_setS flt_sto cs⟩
  obtain ⟨s, hs⟩ := canonAll_mem l cs hc f ((mem_setS flt_sto cs f).1 hf)
  exact (canonL_up hs).1
/-- turned round, in great letters, and made again: the set -/
theorem made_again {m : List (List UInt8)} (h : rightB m = true) : makeCode (m.reverse.map upL) = 0 ∧ makeSet (m.reverse.map upL) = m := by
  obtain ⟨h1, h2, h3⟩ := (rightB_iff m).1 h
  have hc : canonAll (m.reverse.map upL) = some m.reverse := canonAll_fix upL m.reverse fun c hc => (canonL_up (h1 c (by simpa using hc))).2.1
  have hf : fset m.reverse = m := by
    have e : fset m.reverse = setS flt m := setS_congr flt_sto _ _ (fun x => by simp)
    rw [e, setS_of_sorted flt_sto m h3]
  constructor
  · rw [makeCode, hc]; simp only [hf]; rw [if_neg (by omega)]
  · rw [makeSet, hc]; simp only [hf]; rw [if_neg (by omega)]
theorem right_short {m : List (List UInt8)} (h : rightB m = true) : ∀ c ∈ m, c.length ≤ 32 := fun c hc => (canonL_up (((rightB_iff m).1 h).1 c hc)).2.2

theorem canon_same {s : List UInt8} {a b : ByteArray} {x y : Bool} (h1 : Hid (canonL s = (if x then some a.data.toList else none) ∧ (x = false → a = ⟨#[]⟩))) (h2 : Hid (canonL s = (if y then some b.data.toList else none) ∧ (y = false → b = ⟨#[]⟩))) : a = b ∧ x = y := by
  have e := h1.out.1.symm.trans h2.out.1
  cases x <;> cases y
  · exact ⟨(h1.out.2 rfl).trans (h2.out.2 rfl).symm, rfl⟩
  · cases e
  · cases e
  · have := Option.some.inj e
    refine ⟨?_, rfl⟩
    cases a; cases b; simp at this; simp [this]
end Go.Proofs.YtcnebfmlelcliaaGreat
namespace Go.Proofs.YtcnebfmlelcliaaGreat
open Go.RowKit

theorem rev_drop {m : List (List UInt8)} {j : Nat} (h : j < m.length) : (m.drop j).reverse.map upL = (m.drop (j + 1)).reverse.map upL ++ [upL m[j]] := by
  rw [drop_get h, List.reverse_cons, List.map_append]; rfl
theorem short_of {l : List (List UInt8)} (h : ∀ c ∈ l, c.length ≤ 32) : Sized l := fun x hx => small_size x (by have := h x hx; omega)
end Go.Proofs.YtcnebfmlelcliaaGreat
namespace Go.Proofs.YtcnebfmlelcliaaGreat
open Go.RowKit Go.Lib Go.Sort

/-- the test of 'without': does x stand in the list that is held in the closure's box? -/
theorem no1_any (x : List UInt8) (bp : Nat) (v : Value) (l : List (List UInt8)) (w : World) (hb : w.cell? ⟨bp, 0, none⟩ = some v) (hr : Rd w v l.length (l.map encStr)) (hl : l.length * 16 ≤ 140737488355328) :
    Calls Tryz.prog 129 #[encStr x, .pointer (some ⟨bp, 0, none⟩)] w fun e w' => e = .returned (.bool (decide (x ∈ l))) ∧ w = w' := by
  have hh := Lib.hid (has_any v l (mkB x) w hr hl)
  rw [mkB_list] at hh
  obtain ⟨ao, cap, rfl, -⟩ := hr
  go_enter Tryz.func129, Tryz.ntmps129
  go_wp2_with fail
  refine hh.out.mono ?_
  rintro e w' ⟨rfl, rfl⟩
  go_wp2_with fail
  go_ret
  exact ⟨rfl, rfl⟩
theorem indexFunc_none (ao : Option Addr) (cap : Nat) (fv : Value) (w : World) : Calls Tryz.prog 150 #[.slice ao 0 cap, fv] w fun e w' => e = .returned (.int .i64 (-1)) ∧ w = w' := by
  go_enter Tryz.func150, Tryz.ntmps150
  go_wp2_with fail
  go_loop [8] (fun vk => vk = .int .i64 0) (fun _ => 0)
  case atStart => rfl
  case round =>
    subst hrel
    go_wp2_with fail
    go_ret
    exact ⟨rfl, rfl⟩
theorem deleteFunc_none (ao : Option Addr) (cap : Nat) (fv : Value) (w : World) : Calls Tryz.prog 128 #[.slice ao 0 cap, fv] w fun e w' => e = .returned (.slice ao 0 cap) ∧ w = w' := by
  go_enter Tryz.func128, Tryz.ntmps128
  go_wp2_with fail
  refine (indexFunc_none ao cap fv w).mono ?_
  rintro e w' ⟨rfl, rfl⟩
  have hq : ((-1 : Int) == -1) = true := by decide
  go_wp2_with fail
  go_ret
  exact ⟨rfl, rfl⟩
def RetRdB (l : List (List UInt8)) (w : World) (e : Ending) (w' : World) : Prop := ∃ v', e = .returned v' ∧ Hid (Rd w' v' l.length (l.map encStr)) ∧ Hid (Below w.heap.size w w')
theorem becomes_any (u v : Value) (l : List (List UInt8)) (w : World) (hr : Rd w v l.length (l.map encStr)) (hl : l.length * 16 ≤ 140737488355328) :
    Calls Tryz.prog 101 #[u, v] w (RetRdB (fset l) w) := by
  have hr0 := Lib.hid hr
  obtain ⟨ao, cap, rfl, -⟩ := hr
  go_enter Tryz.func101, Tryz.ntmps101
  go_wp2_with fail
  refine (set_any _ l w hr0.out hl).mono ?_
  rintro e w1 ⟨v1, rfl, h1, b1⟩
  have hrd := Lib.hid h1.out.rd
  obtain ⟨ao1, cap1, rfl, -⟩ : ∃ ao cap, v1 = .slice ao (fset l).length cap ∧ True := by
    obtain ⟨ao, cap, h, _⟩ := h1.out; exact ⟨ao, cap, h, trivial⟩
  clear h1
  go_wp2_with fail
  go_ret
  exact ⟨_, rfl, hrd, b1⟩
theorem holds_rd {w : World} {g cap : Nat} {l : List (List UInt8)} (hg : g < w.heap.size) (hc : l.length ≤ cap) (h : Holds encStr w g 0 l.toArray) : Rd w (.slice (some ⟨g, 0, none⟩) l.length cap) l.length (l.map encStr) :=
  HoldsSl.rd (B := 0) ⟨_, cap, rfl, .inr ⟨g, rfl, Nat.zero_le _, hg, hc, h⟩⟩
set_option maxRecDepth 100000 in
set_option maxHeartbeats 2000000 in
theorem without_any (v u : Value) (l by_ : List (List UInt8)) (w : World) (hr : Rd w v l.length (l.map encStr)) (hu : Rd w u by_.length (by_.map encStr)) (hl : l.length * 16 ≤ 140737488355328) (hul : by_.length * 16 ≤ 140737488355328) :
    Calls Tryz.prog 103 #[v, u] w (RetRdB ((fset l).filter fun x => !decide (x ∈ by_)) w) := by
  have eg : ∀ args w, (callFunc 129 args).run Tryz.prog w = .ok (.enter 129 args) w := enters_of Tryz.func129 (by kernel_rfl) rfl
  have hr0 := Lib.hid hr
  have hu0 := Lib.hid hu
  obtain ⟨ao, cap, rfl, -⟩ := hr
  obtain ⟨ao2, cap2, rfl, -⟩ := hu
  go_enter Tryz.func103, Tryz.ntmps103
  go_wp2_with fail
  have b0 : Below w.heap.size w (w.alloc (.cells #[.slice ao2 by_.length cap2] 48)) := (Lays.alloc _ _).below
  have hc0 : (w.alloc (.cells #[.slice ao2 by_.length cap2] 48)).cell? ⟨w.heap.size, 0, none⟩ = some (.slice ao2 by_.length cap2) := by simp
  have hz0 : (w.alloc (.cells #[.slice ao2 by_.length cap2] 48)).heap.size = w.heap.size + 1 := by simp
  refine (set_any _ l _ (hr0.out.below b0) hl).mono ?_
  generalize w.alloc (.cells #[.slice ao2 by_.length cap2] 48) = w0 at b0 hc0 hz0 ⊢
  rintro e w1 ⟨v1, rfl, h1, b1⟩
  have b01 : Below w.heap.size w w1 := b0.trans (b1.out.mono (by omega))
  have hat : ∀ W, Below (w.heap.size + 1) w1 W → Calls Tryz.prog 129 #[encStr [], .pointer (some ⟨w.heap.size, 0, none⟩)] W (fun e w' => True) ∧ ∀ x, FnGives Tryz.prog 129 #[.pointer (some ⟨w.heap.size, 0, none⟩)] #[encStr x] (.bool (decide (x ∈ by_))) W := fun W hW => by
    have hbW : Below w.heap.size w W := b01.trans (hW.mono (by omega))
    have hcW : W.cell? ⟨w.heap.size, 0, none⟩ = some (.slice ao2 by_.length cap2) := by
      rw [hW.cell (p := ⟨w.heap.size, 0, none⟩) (by simp), b1.out.cell (p := ⟨w.heap.size, 0, none⟩) (by simp; omega)]
      exact hc0
    have key := fun x => no1_any x w.heap.size (.slice ao2 by_.length cap2) by_ W hcW (hu0.out.below hbW) hul
    exact ⟨(key []).mono fun _ _ _ => trivial, fun x => (key x).mono fun _ _ ⟨he, hw⟩ => ⟨he, 0, hw.symm⟩⟩
  rcases h1.out with ⟨ao1, cap1, rfl, h1e | ⟨g, rfl, hg, hgl, hcap, hH⟩⟩
  · have he : (fset l).filter (fun x => !decide (x ∈ by_)) = [] := by rw [h1e]; rfl
    have hz : (fset l).length = 0 := by rw [h1e]; rfl
    rw [hz]
    clear hat h1
    go_wp2_with fail
    refine (deleteFunc_none ao1 cap1 _ w1).mono ?_
    rintro e w2 ⟨rfl, rfl⟩
    go_wp2_with fail
    go_ret
    exact ⟨_, rfl, Lib.hid (by rw [he]; exact ⟨ao1, cap1, rfl, .inl rfl⟩), Lib.hid b01⟩
  · have hle : (fset l).length ≤ l.length := setS_len flt l
    have hdel := Tryz.slices_DeleteFunc encStr one_encStr (fun x => decide (x ∈ by_)) 129 #[.pointer (some ⟨w.heap.size, 0, none⟩)] eg ([] : List UInt8) (fun w => by
        have h := str_info
        simp only [Option.map_eq_some_iff] at h
        obtain ⟨i, hi, he⟩ := h
        have hz : i.zero = some (.string ⟨#[]⟩) := congrArg (·.1) he
        simp [zeroValue, typeInfo, hi, hz, encStr]) g 0 cap1 (fset l).toArray w1
      (fun W x hW => (hat W (hW.mono (by have := b1.out.size; omega))).2 x)
      (fun n os dk x _ => (hat _ (below_sortWorld (Below.refl _ _) n g 0 dk os (by omega) (by have := b1.out.size; omega))).2 x)
      hH (by simp; omega) (by simpa using hcap)
    rw [show (fset l).toArray.size = (fset l).length from by simp] at hdel
    replace hdel := Lib.hid hdel
    replace hH := Lib.hid hH
    clear hat h1 b0 hc0
    obtain ⟨R, hR⟩ : ∃ R, Hid (R = (fset l).filter fun x => !decide (x ∈ by_)) := ⟨_, Lib.hid rfl⟩
    have hRl : R.length ≤ (fset l).length := by rw [hR.out]; exact List.length_filter_le _ _
    go_wp2_with fail
    refine hdel.out.mono ?_
    rintro e w2 ⟨rfl, q, hw2⟩
    have e1 : ((fset l).toArray.toList.filter fun x => !decide (x ∈ by_)) = R := by rw [hR.out]
    simp only [e1] at hw2
    rw [e1]
    have hH2 : Holds encStr w2 g 0 R.toArray := by
      rw [hw2]
      refine holds_left (b := List.replicate ((fset l).length - R.length) []) ?_
      exact holds_putRow encStr _ g 0 (fset l).toArray _ hH.out (by simp; omega)
    have hgl2 : g < w2.heap.size := by rw [hw2, size_putRow]; exact hgl
    have b2 : Below w.heap.size w w2 := by rw [hw2]; exact below_putRow b01 q g 0 _ (by omega)
    have hrd := Lib.hid (holds_rd (cap := cap1) hgl2 (by omega) hH2)
    replace b2 := Lib.hid b2
    clear hw2 hdel e1 hH2
    go_wp2_with fail
    go_ret
    exact ⟨_, rfl, Lib.hid (by rw [← hR.out]; exact hrd.out), b2⟩
end Go.Proofs.YtcnebfmlelcliaaGreat
namespace Go.Proofs.YtcnebfmlelcliaaGreat
open Go.RowKit

set_option maxRecDepth 100000 in
set_option maxHeartbeats 2000000 in
theorem grow_any (n : Nat) (hn : n ≤ 1000) (w : World) :
    Calls Tryz.prog 149 #[.slice none 0 0, .int .i64 n] w fun e w' => ∃ v, e = .returned v ∧ Hid (OwnT w' w.heap.size v []) ∧ Hid (Below w.heap.size w w') := by
  rcases Nat.eq_zero_or_pos n with h0 | h0
  · subst h0
    go_enter Tryz.func149, Tryz.ntmps149
    go_wp2_with fail
    go_ret
    exact ⟨_, rfl, Lib.hid (OwnT.nil _ _), Lib.hid (Below.refl _ _)⟩
  · obtain ⟨i, hi, hz, hsz, hby⟩ : ∃ i, Tryz.prog.info? 9 = some i ∧ i.zero = some (.string ⟨#[]⟩) ∧ i.size = 1 ∧ i.bytes = 16 := by
      have h := str_info
      simp only [Option.map_eq_some_iff] at h
      obtain ⟨i, hi, he⟩ := h
      exact ⟨i, hi, congrArg (·.1) he, congrArg (·.2.1) he, congrArg (·.2.2) he⟩
    have hrun := fun (ty : TypeId) => Lib.run_append_nil_zeros (P := Tryz.prog) w 150 3 ty 9 i _ .i64 .i64 Tryz.underlying150 Tryz.underlying3 hi hz n h0 (by omega) (by omega) (by rw [hby]; omega)
    have hge := grownCap_ge w n 0 9
    have hle := grownCap_le_maxLen w n 0 9 (by unfold maxLen; omega)
    have hown := World.ownsRow_made (base := w.heap.size) (e := 9) (size := 1) w.drew (Builtin.zeroCells (Value.string ⟨#[]⟩).cells n ++ Builtin.zeroCells (Value.string ⟨#[]⟩).cells (grownCap w n 0 9 - n)) (grownCap w n 0 9) (Nat.le_refl _) hle (by
      have hzc : ∀ k, (Builtin.zeroCells (Value.string ⟨#[]⟩).cells k).size = k := fun k => by simp [Builtin.zeroCells, Value.cells]
      rw [Array.size_append, hzc, hzc]; omega)
    have hb : Below w.heap.size w (w.drew.alloc (.cells (Builtin.zeroCells (Value.string ⟨#[]⟩).cells n ++ Builtin.zeroCells (Value.string ⟨#[]⟩).cells (grownCap w n 0 9 - n)) 9)) := Below.alloc (show Below w.heap.size w w.drew from ⟨rfl, rfl, rfl, Nat.le_refl _, fun _ _ => rfl⟩) (Nat.le_refl _) _
    obtain ⟨W, hW⟩ : ∃ W, W = w.drew.alloc (.cells (Builtin.zeroCells (Value.string ⟨#[]⟩).cells n ++ Builtin.zeroCells (Value.string ⟨#[]⟩).cells (grownCap w n 0 9 - n)) 9) := ⟨_, rfl⟩
    rw [← hW] at hown hb
    simp only [← hW] at hrun
    obtain ⟨G, hG⟩ : ∃ G, G = grownCap w n 0 9 := ⟨_, rfl⟩
    rw [← hG] at hge hle hown
    simp only [← hG] at hrun
    unfold maxLen at hle
    clear hG hW
    replace hown := Lib.hid hown
    go_enter Tryz.func149, Tryz.ntmps149
    go_wp2_with (at_builtin; refine Lib.wpList_append_run _ rfl _ _ _ _ rfl _ _ rfl rfl _ _ (hrun _) ?_)
    go_ret
    exact ⟨_, rfl, Lib.hid hown.out, Lib.hid hb⟩
/-- 'append(v, u...)' of texts, at the type of flags -/
theorem wpList_append_texts {w : World} {ops : Array Oper} {rest : List Oper} {o : Oper} {a : Act} {Q : Exit → Act → World → Prop} (hgd : o.guard = none) (s x : Operand)
    (ho : o.op = .call { callee := .builtin .append, args := #[s, x], argTypes := #[150, 150] }) (B : Nat) (v v2 : Value) (l m : List (List UInt8))
    (hs : a.eval s = v) (hx : a.eval x = v2) (hown : OwnT w B v l) (h2 : Rd w v2 m.length (m.map encStr)) (hlen : (l.length + m.length) * 16 ≤ 140737488355328) (hbase : B ≤ w.heap.size)
    (h : ∀ v' w', OwnT w' B v' (l ++ m) → w.grownBy w' v.ownBlock → (∀ g, v'.ownBlock = some g → v.ownBlock = some g ∨ w.heap.size ≤ g) → wpList Tryz.prog ops Q rest (a.put o.dst v') w') : wpList Tryz.prog ops Q (o :: rest) a w := by
  refine wpList_append_rd hgd s x 150 ho B 9 _ 1 16 Tryz.underlying150 str_info rfl (by decide) v v2 l.length m.length (l.map encStr) (m.map encStr) hs hx hown h2 (by simp) (fun y hy => ?_) (by unfold maxLen; omega) hlen hbase ?_
  · obtain ⟨z, _, rfl⟩ := List.mem_map.1 hy; rfl
  · intro v' w' ho' hg' hv'
    refine h v' w' ?_ hg' hv'
    unfold OwnT
    rw [List.length_append, List.map_append]
    exact ho'
def RetOwn (l : List (List UInt8)) (w : World) (e : Ending) (w' : World) : Prop := ∃ v', e = .returned v' ∧ Hid (OwnT w' w.heap.size v' l) ∧ Hid (Below w.heap.size w w')
set_option maxRecDepth 100000 in
set_option maxHeartbeats 2000000 in
theorem concat_any (b : Nat) (v u : Value) (l m : List (List UInt8)) (w : World) (hb : b < w.heap.size) (c0 : w.cell? ⟨b, 0, none⟩ = some v) (c1 : w.cell? ⟨b, 1, none⟩ = some u) (hr : Rd w v l.length (l.map encStr)) (hu : Rd w u m.length (m.map encStr)) (hl : l.length ≤ 100) (hm : m.length ≤ 100) :
    Calls Tryz.prog 127 #[.slice (some ⟨b, 0, none⟩) 2 2] w (RetOwn (l ++ m) w) := by
  have hr0 := Lib.hid hr
  have hu0 := Lib.hid hu
  obtain ⟨ao, cap, rfl, -⟩ := hr
  obtain ⟨ao2, cap2, rfl, -⟩ := hu
  have hc0 : ∀ W, Below w.heap.size w W → W.cell? ⟨b, 0, none⟩ = some (.slice ao l.length cap) := fun W hW => (hW.cell (p := ⟨b, 0, none⟩) hb).trans c0
  have hc1 : ∀ W, Below w.heap.size w W → W.cell? ⟨b, 1, none⟩ = some (.slice ao2 m.length cap2) := fun W hW => (hW.cell (p := ⟨b, 1, none⟩) hb).trans c1
  replace hc0 := Lib.hid hc0
  replace hc1 := Lib.hid hc1
  go_enter Tryz.func127, Tryz.ntmps127
  go_wp2_with fail
  go_loop [3, 11] (fun vs vk => (vk = .int .i64 0 ∧ vs = .int .i64 0) ∨ (vk = .int .i64 1 ∧ vs = .int .i64 l.length) ∨ (vk = .int .i64 2 ∧ vs = .int .i64 ((l.length + m.length : Nat) : Int))) (fun _ vk => 2 - (intOf vk).toNat)
  case atStart => exact .inl ⟨rfl, rfl⟩
  case round =>
    rcases hrel with ⟨rfl, rfl⟩ | ⟨rfl, rfl⟩ | ⟨rfl, rfl⟩
    · go_wp2_with fail
      go_round
      case rel => exact .inr (.inl ⟨rfl, by go_num⟩)
      case measure => decide
    · go_wp2_with fail
      go_round
      case rel => exact .inr (.inr ⟨rfl, by go_num⟩)
      case measure => decide
    · go_wp2_with fail
      refine (grow_any (l.length + m.length) (by omega) w).mono ?_
      rintro e w1 ⟨v1, rfl, o1, b1⟩
      go_wp2_with fail
      go_loopw [6, 27] (fun vo vk wr => ((vk = .int .i64 0 ∧ Hid (OwnT wr w.heap.size vo [])) ∨ (vk = .int .i64 1 ∧ Hid (OwnT wr w.heap.size vo l)) ∨ (vk = .int .i64 2 ∧ Hid (OwnT wr w.heap.size vo (l ++ m)))) ∧ Hid (Below w.heap.size w wr)) (fun _ vk _ => 2 - (intOf vk).toNat)
      case atStart => exact ⟨.inl ⟨rfl, o1⟩, b1⟩
      case round =>
        obtain ⟨hrel, hb2⟩ := hrel
        have d0 := hc0.out wr hb2.out
        have d1 := hc1.out wr hb2.out
        have hr2 := Lib.hid (hr0.out.below hb2.out)
        have hu2 := Lib.hid (hu0.out.below hb2.out)
        have hsz2 := hb2.out.size
        rcases hrel with ⟨rfl, ho⟩ | ⟨rfl, ho⟩ | ⟨rfl, ho⟩
        · go_wp2_with (at_builtin; refine wpList_append_texts rfl (.tmp 31) (.tmp 32) rfl w.heap.size u6 _ [] l rfl rfl ho.out hr2.out (by simp; omega) hsz2 ?_)
          intro v4 w4 ho4 hg4 hv4
          have hb4 := Lib.hid (hb2.out.grown hg4 (by omega) (fun k hk => (ho.out.lt k hk).1))
          replace ho4 := Lib.hid ho4
          clear hg4 hv4
          go_wp2_with fail
          go_roundw
          case rel => exact ⟨.inr (.inl ⟨rfl, by simpa using ho4⟩), hb4⟩
          case measure => decide
        · go_wp2_with (at_builtin; refine wpList_append_texts rfl (.tmp 31) (.tmp 32) rfl w.heap.size u6 _ l m rfl rfl ho.out hu2.out (by omega) hsz2 ?_)
          intro v4 w4 ho4 hg4 hv4
          have hb4 := Lib.hid (hb2.out.grown hg4 (by omega) (fun k hk => (ho.out.lt k hk).1))
          replace ho4 := Lib.hid ho4
          clear hg4 hv4
          go_wp2_with fail
          go_roundw
          case rel => exact ⟨.inr (.inr ⟨rfl, ho4⟩), hb4⟩
          case measure => decide
        · go_wp2_with fail
          go_ret
          exact ⟨_, rfl, ho, hb2⟩
theorem with_any (v u : Value) (l m : List (List UInt8)) (w : World) (hr : Rd w v l.length (l.map encStr)) (hu : Rd w u m.length (m.map encStr)) (hl : l.length ≤ 100) (hm : m.length ≤ 100) :
    Calls Tryz.prog 102 #[v, u] w (RetRdB (fset (l ++ m)) w) := by
  have hr0 := Lib.hid hr
  have hu0 := Lib.hid hu
  obtain ⟨ao, cap, rfl, -⟩ := hr
  obtain ⟨ao2, cap2, rfl, -⟩ := hu
  go_enter Tryz.func102, Tryz.ntmps102
  go_wp2_with fail
  have b0 : Below w.heap.size w (w.alloc (.cells #[.slice ao l.length cap, .slice ao2 m.length cap2] 150)) := (Lays.alloc _ _).below
  refine (concat_any w.heap.size (.slice ao l.length cap) (.slice ao2 m.length cap2) l m _ (by simp) (by simp) (by simp) (hr0.out.below b0) (hu0.out.below b0) hl hm).mono ?_
  rintro e w1 ⟨v1, rfl, o1, b1⟩
  have b1' := Lib.hid (b0.trans (b1.out.mono b0.size))
  clear b0 b1
  go_wp2_with fail
  refine (set_any _ (l ++ m) w1 o1.out.rd (by simp; omega)).mono ?_
  rintro e w2 ⟨v2, rfl, h2, b2⟩
  have b2' := Lib.hid (b1'.out.trans (b2.out.mono b1'.out.size))
  have hrd := Lib.hid h2.out.rd
  clear b2 h2
  go_wp2_with fail
  go_ret
  exact ⟨_, rfl, hrd, b2'⟩
end Go.Proofs.YtcnebfmlelcliaaGreat
namespace Go.Proofs.YtcnebfmlelcliaaGreat
open Go.RowKit

/-- what is put together ahead of the set -/
def chIn (l : List (List UInt8)) (how : Int) (by_ : List (List UInt8)) : List (List UInt8) := (if how = 0 then [] else if how = 1 then l else l.filter fun x => !decide (x ∈ by_)) ++ (if how = 2 then [] else by_)
def chOk (l : List (List UInt8)) (how : Int) (by_ : List (List UInt8)) : Bool := rightB l && (rightB by_ && (decide (0 ≤ how) && decide (how < 3)))
def chCode (l : List (List UInt8)) (how : Int) (by_ : List (List UInt8)) : Nat := if chOk l how by_ then (if 16 < (fset (chIn l how by_)).length then 7 else 0) else 1
def chSet (l : List (List UInt8)) (how : Int) (by_ : List (List UInt8)) : List (List UInt8) := if chOk l how by_ then (if 16 < (fset (chIn l how by_)).length then [] else fset (chIn l how by_)) else []
def ChRet (l : List (List UInt8)) (how : Int) (by_ : List (List UInt8)) (w : World) (e : Ending) (w' : World) : Prop := ∃ v', e = .returned (.tuple #[v', .int .i64 (chCode l how by_ : Int)]) ∧ Hid (Rd w' v' (chSet l how by_).length ((chSet l how by_).map encStr)) ∧ Hid (Below w.heap.size w w')
theorem ch_none {l by_ : List (List UInt8)} {how : Int} {w w' : World} (h : chOk l how by_ = false) (hb : Below w.heap.size w w') : ChRet l how by_ w (.returned (.tuple #[.slice none 0 0, .int .i64 1])) w' :=
  ⟨_, by rw [chCode, h]; rfl, Lib.hid (by rw [chSet, h]; exact ⟨none, 0, rfl, .inl rfl⟩), Lib.hid hb⟩
theorem ch_full {l by_ : List (List UInt8)} {how : Int} {w w' : World} (h : chOk l how by_ = true) (h2 : 16 < (fset (chIn l how by_)).length) (hb : Below w.heap.size w w') : ChRet l how by_ w (.returned (.tuple #[.slice none 0 0, .int .i64 7])) w' :=
  ⟨_, by rw [chCode, h, if_pos rfl, if_pos h2]; rfl, Lib.hid (by rw [chSet, h, if_pos rfl, if_pos h2]; exact ⟨none, 0, rfl, .inl rfl⟩), Lib.hid hb⟩
theorem ch_ok {l by_ : List (List UInt8)} {how : Int} {w w' : World} {v : Value} (h : chOk l how by_ = true) (h2 : ¬ 16 < (fset (chIn l how by_)).length) (hr : Rd w' v (fset (chIn l how by_)).length ((fset (chIn l how by_)).map encStr)) (hb : Below w.heap.size w w') : ChRet l how by_ w (.returned (.tuple #[v, .int .i64 0])) w' :=
  ⟨v, by rw [chCode, h, if_pos rfl, if_neg h2]; rfl, Lib.hid (by rw [chSet, h, if_pos rfl, if_neg h2]; exact hr), Lib.hid hb⟩
theorem right_16 {l : List (List UInt8)} (h : rightB l = true) : l.length ≤ 16 := ((rightB_iff l).1 h).2.1
theorem right_set {l : List (List UInt8)} (h : rightB l = true) : fset l = l := setS_of_sorted flt_sto l ((rightB_iff l).1 h).2.2
theorem right_filter {l : List (List UInt8)} (h : rightB l = true) (p : List UInt8 → Bool) : fset (l.filter p) = l.filter p := setS_of_sorted flt_sto _ (((rightB_iff l).1 h).2.2.sublist List.filter_sublist)
theorem ch_in0 (l by_ : List (List UInt8)) : chIn l 0 by_ = by_ := rfl
theorem ch_in1 (l by_ : List (List UInt8)) : chIn l 1 by_ = l ++ by_ := rfl
theorem ch_in2 (l by_ : List (List UInt8)) : chIn l 2 by_ = l.filter (fun x => !decide (x ∈ by_)) := by
  rw [chIn]; simp
theorem ch_okk {l by_ : List (List UInt8)} {how : Int} (h1 : rightB l = true) (h2 : rightB by_ = true) (h3 : 0 ≤ how) (h4 : how < 3) : chOk l how by_ = true := by
  rw [chOk, h1, h2, decide_eq_true h3, decide_eq_true h4]; rfl
set_option maxRecDepth 100000 in
set_option maxHeartbeats 4000000 in
theorem change_any (v u : Value) (l by_ : List (List UInt8)) (how : Int) (w : World) (hr : Rd w v l.length (l.map encStr)) (hu : Rd w u by_.length (by_.map encStr)) (hl : (l.length + 2) * 16 ≤ 140737488355328) (hul : (by_.length + 2) * 16 ≤ 140737488355328) (hs : Sized l) (hus : Sized by_) :
    Calls Tryz.prog 73 #[v, .int .i64 how, u] w (ChRet l how by_ w) := by
  have hr0 := Lib.hid hr
  have hu0 := Lib.hid hu
  replace hs := Lib.hid hs
  replace hus := Lib.hid hus
  obtain ⟨ao, cap, rfl, -⟩ := hr
  obtain ⟨ao2, cap2, rfl, -⟩ := hu
  go_enter Tryz.func73, Tryz.ntmps73
  go_wp2_with fail
  have hc : ∀ W, Below (w.heap.size + 1) (w.alloc (.cells #[.func (.func 101) #[] #[], .func (.func 102) #[] #[], .func (.func 103) #[] #[]] 151)) W → W.cell? ⟨w.heap.size, 0, none⟩ = some (.func (.func 101) #[] #[]) ∧ W.cell? ⟨w.heap.size, 1, none⟩ = some (.func (.func 102) #[] #[]) ∧ W.cell? ⟨w.heap.size, 2, none⟩ = some (.func (.func 103) #[] #[]) := fun W hW => by
    refine ⟨?_, ?_, ?_⟩ <;> (rw [hW.cell (by simp)]; simp)
  have b0 : Below w.heap.size w (w.alloc (.cells #[.func (.func 101) #[] #[], .func (.func 102) #[] #[], .func (.func 103) #[] #[]] 151)) := (Lays.alloc _ _).below
  have hz0 : (w.alloc (.cells #[.func (.func 101) #[] #[], .func (.func 102) #[] #[], .func (.func 103) #[] #[]] 151)).heap.size = w.heap.size + 1 := by simp
  refine (right_any _ l _ (hr0.out.below b0) hl hs.out).mono ?_
  generalize w.alloc (.cells #[.func (.func 101) #[] #[], .func (.func 102) #[] #[], .func (.func 103) #[] #[]] 151) = w0 at hc b0 hz0 ⊢
  rintro e w1 ⟨rfl, b1⟩
  have hb1 : Hid (Below (w.heap.size + 1) w0 w1) := Lib.hid (b1.out.mono (by omega))
  have hb1' : Hid (Below w.heap.size w w1) := Lib.hid (b0.trans (b1.out.mono (by omega)))
  replace hc := Lib.hid hc
  clear b1
  cases hR : rightB l
  · have hno : Hid (chOk l how by_ = false) := Lib.hid (by rw [chOk, hR]; rfl)
    replace hR := Lib.hid hR
    go_wp2_with fail
    go_ret2
    exact ch_none hno.out hb1'.out
  · replace hR := Lib.hid hR
    go_wp2_with fail
    refine (right_any _ by_ w1 (hu0.out.below hb1'.out) hul hus.out).mono ?_
    rintro e w2 ⟨rfl, b2⟩
    have hb2 : Hid (Below (w.heap.size + 1) w0 w2) := Lib.hid (hb1.out.trans (b2.out.mono (by have := hb1.out.size; omega)))
    have hb2' : Hid (Below w.heap.size w w2) := Lib.hid (hb1'.out.trans (b2.out.mono hb1'.out.size))
    clear b2 hb1 hb1' b0 hz0
    cases hR2 : rightB by_
    · have hno : Hid (chOk l how by_ = false) := Lib.hid (by rw [chOk, hR2]; simp)
      replace hR2 := Lib.hid hR2
      go_wp2_with fail
      go_ret2
      exact ch_none hno.out hb2'.out
    · replace hR2 := Lib.hid hR2
      by_cases hlo : how < 0
      · have hno : Hid (chOk l how by_ = false) := Lib.hid (by rw [chOk, decide_eq_false (show ¬ 0 ≤ how by omega)]; simp)
        go_wp2_with fail
        go_ret2
        exact ch_none hno.out hb2'.out
      · by_cases hhi : 3 ≤ how
        · have hno : Hid (chOk l how by_ = false) := Lib.hid (by rw [chOk, decide_eq_false (show ¬ how < 3 by omega)]; simp)
          go_wp2_with fail
          go_ret2
          exact ch_none hno.out hb2'.out
        have hokk := Lib.hid (ch_okk hR.out hR2.out (show 0 ≤ how by omega) (show how < 3 by omega))
        have hl16 := right_16 hR.out
        have hu16 := right_16 hR2.out
        have hr2 := Lib.hid (hr0.out.below hb2'.out)
        have hu2 := Lib.hid (hu0.out.below hb2'.out)
        rcases (show how = 0 ∨ how = 1 ∨ how = 2 by omega) with rfl | rfl | rfl
        · have hcc := (hc.out w2 hb2.out).1
          go_wp2_with fail
          refine (becomes_any _ _ by_ w2 hu2.out (by omega)).mono ?_
          rintro e w3 ⟨v3, rfl, hr3, b3⟩
          have hb3 := Lib.hid (hb2'.out.trans (b3.out.mono hb2'.out.size))
          have hfl : (fset by_).length ≤ (by_).length := setS_len flt _
          have hin : Hid (chIn l 0 by_ = by_) := Lib.hid (rfl)
          obtain ⟨F, hF⟩ : ∃ F, Hid (F = fset by_) := ⟨_, Lib.hid rfl⟩
          have hr3' : Hid (Rd w3 v3 F.length (F.map encStr)) := Lib.hid (by rw [hF.out]; exact hr3.out)
          rw [← hF.out] at hfl
          have hFI : Hid (F = fset (chIn l 0 by_)) := Lib.hid (by rw [hF.out, hin.out])
          clear hr3 b3 hcc hin hF
          obtain ⟨a3, c3, rfl⟩ : ∃ a c, v3 = .slice a F.length c := by
            obtain ⟨a, c, h, _⟩ := hr3'.out; exact ⟨a, c, h⟩
          have hF40 : F.length ≤ 40 := by
            refine Nat.le_trans hfl ?_
            omega
          clear hfl
          by_cases h16 : 16 < F.length
          · go_wp2_with fail
            go_ret2
            exact ch_full hokk.out (by rw [← hFI.out]; exact h16) hb3.out
          · go_wp2_with fail
            go_ret2
            exact ch_ok hokk.out (by rw [← hFI.out]; exact h16) (by rw [← hFI.out]; exact hr3'.out) hb3.out
        · have hcc := (hc.out w2 hb2.out).2.1
          go_wp2_with fail
          refine (with_any _ _ l by_ w2 hr2.out hu2.out (by omega) (by omega)).mono ?_
          rintro e w3 ⟨v3, rfl, hr3, b3⟩
          have hb3 := Lib.hid (hb2'.out.trans (b3.out.mono hb2'.out.size))
          have hfl : (fset (l ++ by_)).length ≤ ((l ++ by_)).length := setS_len flt _
          have hin : Hid (chIn l 1 by_ = (l ++ by_)) := Lib.hid (rfl)
          obtain ⟨F, hF⟩ : ∃ F, Hid (F = fset (l ++ by_)) := ⟨_, Lib.hid rfl⟩
          have hr3' : Hid (Rd w3 v3 F.length (F.map encStr)) := Lib.hid (by rw [hF.out]; exact hr3.out)
          rw [← hF.out] at hfl
          have hFI : Hid (F = fset (chIn l 1 by_)) := Lib.hid (by rw [hF.out, hin.out])
          clear hr3 b3 hcc hin hF
          obtain ⟨a3, c3, rfl⟩ : ∃ a c, v3 = .slice a F.length c := by
            obtain ⟨a, c, h, _⟩ := hr3'.out; exact ⟨a, c, h⟩
          have hF40 : F.length ≤ 40 := by
            refine Nat.le_trans hfl ?_
            simp; omega
          clear hfl
          by_cases h16 : 16 < F.length
          · go_wp2_with fail
            go_ret2
            exact ch_full hokk.out (by rw [← hFI.out]; exact h16) hb3.out
          · go_wp2_with fail
            go_ret2
            exact ch_ok hokk.out (by rw [← hFI.out]; exact h16) (by rw [← hFI.out]; exact hr3'.out) hb3.out
        · have hcc := (hc.out w2 hb2.out).2.2
          go_wp2_with fail
          refine (without_any _ _ l by_ w2 hr2.out hu2.out (by omega) (by omega)).mono ?_
          rintro e w3 ⟨v3, rfl, hr3, b3⟩
          have hb3 := Lib.hid (hb2'.out.trans (b3.out.mono hb2'.out.size))
          have hfl : (fset (l.filter fun x => !decide (x ∈ by_))).length ≤ ((l.filter fun x => !decide (x ∈ by_))).length := setS_len flt _
          have hin : Hid (chIn l 2 by_ = (l.filter fun x => !decide (x ∈ by_))) := Lib.hid (ch_in2 l by_)
          obtain ⟨F, hF⟩ : ∃ F, Hid (F = fset (l.filter fun x => !decide (x ∈ by_))) := ⟨_, Lib.hid rfl⟩
          have hr3' : Hid (Rd w3 v3 F.length (F.map encStr)) := Lib.hid (by rw [hF.out, right_filter hR.out]; have h := hr3.out; rw [right_set hR.out] at h; exact h)
          rw [← hF.out] at hfl
          have hFI : Hid (F = fset (chIn l 2 by_)) := Lib.hid (by rw [hF.out, hin.out])
          clear hr3 b3 hcc hin hF
          obtain ⟨a3, c3, rfl⟩ : ∃ a c, v3 = .slice a F.length c := by
            obtain ⟨a, c, h, _⟩ := hr3'.out; exact ⟨a, c, h⟩
          have hF40 : F.length ≤ 40 := by
            refine Nat.le_trans hfl ?_
            exact Nat.le_trans (List.length_filter_le _ _) (by omega)
          clear hfl
          by_cases h16 : 16 < F.length
          · go_wp2_with fail
            go_ret2
            exact ch_full hokk.out (by rw [← hFI.out]; exact h16) hb3.out
          · go_wp2_with fail
            go_ret2
            exact ch_ok hokk.out (by rw [← hFI.out]; exact h16) (by rw [← hFI.out]; exact hr3'.out) hb3.out
end Go.Proofs.YtcnebfmlelcliaaGreat
namespace Go.Proofs.YtcnebfmlelcliaaGreat
open Go.RowKit

theorem rd_empty (w : World) : Rd w (.slice none 0 0) (fset ([] : List (List UInt8))).length ((fset ([] : List (List UInt8))).map encStr) := ⟨none, 0, rfl, .inl rfl⟩
end Go.Proofs.YtcnebfmlelcliaaGreat
