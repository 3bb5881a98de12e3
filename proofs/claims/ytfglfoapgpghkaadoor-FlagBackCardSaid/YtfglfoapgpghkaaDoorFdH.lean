/- Right, and what is kept (as XFlH and XFlI, without their other functions). -/
import Derived.Test.YtfglfoapgpghkaaDoorFdG
namespace Go.Proofs.YtfglfoapgpghkaaDoor
open Go.RowKit

/-- is a list a set of flags? -/
def rightB (l : List (List UInt8)) : Bool := (l.all fun f => decide (canonL f = some f)) && (decide (l.length ≤ 16) && decide (l = fset l))
theorem rightB_iff (l : List (List UInt8)) : rightB l = true ↔ (∀ f ∈ l, canonL f = some f) ∧ l.length ≤ 16 ∧ SSorted flt l := by
  rw [rightB]
  simp only [Bool.and_eq_true, List.all_eq_true, decide_eq_true_eq]
  constructor
  · rintro ⟨h1, h2, h3⟩; exact ⟨h1, h2, by rw [h3]; exact sorted_setS flt_sto l⟩
  · rintro ⟨h1, h2, h3⟩; exact ⟨h1, h2, (setS_of_sorted flt_sto l h3).symm⟩
theorem rightB_not {l : List (List UInt8)} {f : List UInt8} (hf : f ∈ l) (hn : canonL f ≠ some f) : rightB l = false := by
  cases h : rightB l
  · rfl
  · exact absurd (((rightB_iff l).1 h).1 f hf) hn
/-- slices.Equal of two lists of texts -/
theorem equal_any (v1 v2 : Value) (l m : List (List UInt8)) (w : World) (h1 : Rd w v1 l.length (l.map encStr)) (h2 : Rd w v2 m.length (m.map encStr)) (hl : l.length * 16 ≤ 140737488355328) (hm : m.length * 16 ≤ 140737488355328) :
    Calls Tryd.prog 18 #[v1, v2] w fun e w' => e = .returned (.bool (decide (l = m))) ∧ Hid (Below w.heap.size w w') := by
  obtain ⟨a1, c1, rfl, h1⟩ := h1
  obtain ⟨a2, c2, rfl, h2⟩ := h2
  by_cases hlen : l.length = m.length
  · rcases h1 with h1 | ⟨b1, o1, rfl, hb1, hle1, hc1⟩
    · obtain rfl := List.eq_nil_of_length_eq_zero h1
      have hm0 : m = [] := List.eq_nil_of_length_eq_zero (by rw [← hlen]; rfl)
      subst hm0
      exact (Tryd.slices_Equal_string_empty a1 a2 c1 0 c2 w (by omega)).mono fun _ _ ⟨he, hw⟩ => ⟨he, Lib.hid (by rw [hw]; exact Below.refl _ _)⟩
    · rcases h2 with h2 | ⟨b2, o2, rfl, hb2, hle2, hc2⟩
      · have hm0 : m = [] := List.eq_nil_of_length_eq_zero h2
        subst hm0
        have hl0 : l = [] := List.eq_nil_of_length_eq_zero (by rw [hlen]; rfl)
        subst hl0
        exact (Tryd.slices_Equal_string_empty _ a2 c1 0 c2 w (by omega)).mono fun _ _ ⟨he, hw⟩ => ⟨he, Lib.hid (by rw [hw]; exact Below.refl _ _)⟩
      · have cell : ∀ (l : List (List UInt8)) (b o : Nat), (∀ i u, (l.map encStr)[i]? = some u → w.cell? ⟨b, o + i, none⟩ = some u) → ∀ j, j < (l.map mkB).length → w.cell? ⟨b, o + j, none⟩ = some (.string ((l.map mkB).getD j ByteArray.empty)) := fun l b o hc j hj => by
          have hj' : j < l.length := by simpa using hj
          rw [rd_cell hc hj']
          simp [List.getD, hj']
        have h := Tryd.slices_Equal_string b1 o1 l.length c1 b2 o2 m.length c2 (l.map mkB) (m.map mkB) w (by simp) (by simp) (by omega) (by omega) (cell l b1 o1 hc1) (cell m b2 o2 hc2)
        have e : decide ((l.map mkB).take l.length = (m.map mkB).take m.length) = decide (l = m) := by
          rw [List.take_of_length_le (by simp), List.take_of_length_le (by simp), decide_eq_decide]
          constructor
          · intro h
            have h' := congrArg (List.map fun s : ByteArray => s.data.toList) h
            rw [List.map_map, List.map_map] at h'
            have id1 : ∀ l : List (List UInt8), l.map ((fun s : ByteArray => s.data.toList) ∘ mkB) = l := fun l => List.map_id' l
            rwa [id1, id1] at h'
          · rintro rfl; rfl
        rw [e] at h
        exact h.mono fun _ _ ⟨he, q, hw⟩ => ⟨he, Lib.hid (by rw [hw]; exact below_drewN (Below.refl _ _) _)⟩
  · exact (Tryd.slices_Equal_string_lens a1 a2 l.length c1 m.length c2 w hlen).mono fun _ _ ⟨he, hw⟩ => ⟨by rw [he, decide_eq_false (fun e => hlen (by rw [e]))], Lib.hid (by rw [hw]; exact Below.refl _ _)⟩
set_option maxRecDepth 100000 in
set_option maxHeartbeats 2000000 in
theorem right_any (v : Value) (l : List (List UInt8)) (w : World) (hr : Rd w v l.length (l.map encStr)) (hl : (l.length + 2) * 16 ≤ 140737488355328) (hs : Sized l) :
    Calls Tryd.prog 11 #[v] w fun e w' => e = .returned (.bool (rightB l)) ∧ Hid (Below w.heap.size w w') := by
  have hr0 := Lib.hid hr
  replace hs := Lib.hid hs
  obtain ⟨ao, cap, rfl, -⟩ := hr
  go_enter Tryd.func11, Tryd.ntmps11
  go_wp2_with fail
  go_loopw [9] (fun vk wr => ∃ (k : Nat), vk = .int .i64 k ∧ k ≤ l.length ∧ Hid (∀ f ∈ l.take k, canonL f = some f) ∧ Hid (Below w.heap.size w wr)) (fun vk _ => l.length - (intOf vk).toNat)
  case atStart => exact ⟨0, rfl, Nat.zero_le _, Lib.hid (by simp), Lib.hid (Below.refl _ _)⟩
  case round =>
    obtain ⟨k, rfl, hk, hfix, hb⟩ := hrel
    by_cases hlt : k < l.length
    · obtain ⟨b, o, hao, hbl, hcell⟩ := hr0.out.at_pos (by omega)
      subst hao
      have hcw : wr.cell? ⟨b, o + k, none⟩ = some (.string (mkB l[k])) := (hb.out.cell (p := ⟨b, o + k, none⟩) hbl).trans (rd_cell hcell hlt)
      have hcan := Lib.hid (canon_any (mkB l[k]) (hs.out _ (List.getElem_mem hlt)) wr)
      rw [mkB_list] at hcan
      have hX : Hid ((mkB l[k]).data.toList = l[k]) := Lib.hid rfl
      generalize mkB l[k] = X at hcw hcan hX
      clear hcell
      go_wp2_with fail
      refine hcan.out.mono ?_
      rintro e w2 ⟨u, ok, rfl, hu, hb2⟩
      have hb3 := Lib.hid (hb.out.trans (hb2.out.mono hb.out.size))
      clear hcan hb2
      cases ok
      · have hno : Hid (rightB l = false) := Lib.hid (rightB_not (List.getElem_mem hlt) (by rw [hu.out.1]; simp))
        clear hu
        go_wp2_with fail
        go_ret
        exact ⟨by rw [hno.out]; rfl, hb3⟩
      · have hq : (u.toList == X.toList) = (u.data.toList == l[k]) := by rw [eq_str, hX.out]
        have hu1 : Hid (canonL l[k] = some u.data.toList) := Lib.hid hu.out.1
        clear hu
        cases h : (u.data.toList == l[k])
        · have hno : Hid (rightB l = false) := Lib.hid (rightB_not (List.getElem_mem hlt) (by
            rw [hu1.out]; intro e; rw [Option.some.inj e] at h; simp at h))
          rw [h] at hq
          replace h := Lib.hid h
          go_wp2_with fail
          go_ret
          exact ⟨by rw [hno.out]; rfl, hb3⟩
        · have hn : Hid (∀ f ∈ l.take (k + 1), canonL f = some f) := Lib.hid (by
            intro f hf
            rw [List.take_succ_eq_append_getElem hlt, List.mem_append] at hf
            rcases hf with hf | hf
            · exact hfix.out f hf
            · have : f = l[k] := by simpa using hf
              rw [this, hu1.out, eq_of_beq h])
          rw [h] at hq
          replace h := Lib.hid h
          go_wp2_with fail
          go_roundw
          case rel => exact ⟨k + 1, by go_num, by omega, hn, hb3⟩
          case measure => simp [intOf]; omega
    · have hall : Hid ((l.all fun f => decide (canonL f = some f)) = true) := Lib.hid (by
        have h := hfix.out
        rw [List.take_of_length_le (by omega)] at h
        rw [List.all_eq_true]
        intro f hf
        exact decide_eq_true (h f hf))
      by_cases h16 : l.length ≤ 16
      · have hR : Hid (rightB l = decide (l = fset l)) := Lib.hid (by rw [rightB, hall.out, decide_eq_true h16]; rfl)
        have hrw := Lib.hid (hr0.out.below hb.out)
        go_wp2_with fail
        refine (set_any _ l wr hrw.out (by omega)).mono ?_
        rintro e w2 ⟨v2, rfl, ho2, hb2⟩
        have hb3 := Lib.hid (hb.out.trans (hb2.out.mono hb.out.size))
        have hfl : (fset l).length ≤ l.length := setS_len flt l
        have heq := Lib.hid (equal_any _ v2 l (fset l) w2 (hrw.out.below hb2.out) ho2.out.rd (by omega) (by omega))
        rw [← hR.out] at heq
        clear hb2
        go_wp2_with fail
        refine heq.out.mono ?_
        rintro e w3 ⟨rfl, hb4⟩
        have hb5 := Lib.hid (hb3.out.trans (hb4.out.mono hb3.out.size))
        obtain ⟨B, hB⟩ : ∃ B, Hid (rightB l = B) := ⟨_, Lib.hid rfl⟩
        rw [hB.out]
        go_wp2_with fail
        go_ret
        exact ⟨by rw [hB.out]; rfl, hb5⟩
      · have hR : Hid (rightB l = false) := Lib.hid (by rw [rightB, decide_eq_false h16]; simp)
        go_wp2_with fail
        go_ret
        exact ⟨by rw [hR.out]; rfl, hb⟩
/- what is kept of what is kept -/
theorem byte_all (p : UInt8 → Bool) (h : ∀ n, n < 256 → p (UInt8.ofNat n) = true) (b : UInt8) : p b = true := by
  have := h b.toNat b.toNat_lt
  rwa [UInt8.ofNat_toNat] at this
theorem up_low (b : UInt8) : upB (lowB b) = upB b := by simpa using byte_all (fun b => upB (lowB b) == upB b) (by decide +kernel) b
theorem up_up (b : UInt8) : upB (upB b) = upB b := by simpa using byte_all (fun b => upB (upB b) == upB b) (by decide +kernel) b
theorem low_low (b : UInt8) : lowB (lowB b) = lowB b := by simpa using byte_all (fun b => lowB (lowB b) == lowB b) (by decide +kernel) b
theorem low_up (b : UInt8) : lowB (upB b) = lowB b := by simpa using byte_all (fun b => lowB (upB b) == lowB b) (by decide +kernel) b
theorem atom_low (b : UInt8) : atomB (lowB b).toNat = atomB b.toNat := by simpa using byte_all (fun b => atomB (lowB b).toNat == atomB b.toNat) (by decide +kernel) b
theorem atom_up (b : UInt8) : atomB (upB b).toNat = atomB b.toNat := by simpa using byte_all (fun b => atomB (upB b).toNat == atomB b.toNat) (by decide +kernel) b
theorem upL_low (l : List UInt8) : upL (lowL l) = upL l := by simp [upL, lowL, up_low]
theorem upL_up (l : List UInt8) : upL (upL l) = upL l := by simp [upL, up_up]
theorem lowL_low (l : List UInt8) : lowL (lowL l) = lowL l := by simp [lowL, low_low]
theorem lowL_up (l : List UInt8) : lowL (upL l) = lowL l := by simp [upL, lowL, low_up]
theorem keyB_map (g : UInt8 → UInt8) (hg : ∀ b, atomB (g b).toNat = atomB b.toNat) (l : List UInt8) : keyB (l.map g) = keyB l := by
  have h1 : allB atomB (l.map g) = allB atomB l := by
    induction l with
    | nil => rfl
    | cons x r ih =>
      have e : ∀ (y : UInt8) (m : List UInt8), allB atomB (y :: m) = (atomB y.toNat && allB atomB m) := fun _ _ => rfl
      rw [List.map_cons, e, e, ih, hg]
  have h2 : (l.map g).isEmpty = l.isEmpty := by cases l <;> rfl
  rw [keyB, keyB, allS, allS, h1, h2, List.length_map]
theorem sys_find {s f : List UInt8} (h : sysL.find? (fun f => upL f == upL s) = some f) : f ∈ sysL := List.mem_of_find?_eq_some h
theorem sys_canon : ∀ f ∈ sysL, canonL f = some f ∧ canonL (upL f) = some f ∧ f.length ≤ 32 := by decide +kernel
theorem canonL_up {s c : List UInt8} (h : canonL s = some c) : canonL c = some c ∧ canonL (upL c) = some c ∧ c.length ≤ 32 := by
  unfold canonL at h
  cases hf : sysL.find? (fun f => upL f == upL s) with
  | some f =>
    rw [hf] at h
    have : f = c := Option.some.inj h
    subst this
    exact sys_canon f (sys_find hf)
  | none =>
    rw [hf] at h
    by_cases hk : keyB s = true
    · simp only [hk, if_true] at h
      have hc : lowL s = c := Option.some.inj h
      subst hc
      have hk1 : keyB (lowL s) = true := (keyB_map lowB atom_low s).trans hk
      have hk2 : keyB (upL (lowL s)) = true := (keyB_map upB atom_up _).trans hk1
      refine ⟨?_, ?_, ?_⟩
      · unfold canonL; rw [upL_low, hf]; simp only [hk1, if_true, lowL_low]
      · unfold canonL; rw [upL_up, upL_low, hf]; rw [upL_low] at hk2; simp only [hk2, if_true, lowL_up]
      · have h3 := hk1
        rw [keyB, Bool.and_eq_true] at h3
        exact of_decide_eq_true h3.2
    · simp only [hk] at h; cases h
theorem canonAll_mem : ∀ (l cs : List (List UInt8)), canonAll l = some cs → ∀ c ∈ cs, ∃ s, canonL s = some c
  | [], cs, h, c, hc => by simp [canonAll] at h; subst h; cases hc
  | x :: r, cs, h, c, hc => by
    rw [canonAll] at h
    cases hx : canonL x with
    | none => rw [hx] at h; cases h
    | some a =>
      rw [hx] at h
      cases hr : canonAll r with
      | none => rw [hr] at h; cases h
      | some y =>
        rw [hr] at h
        obtain rfl := Option.some.inj h
        rcases List.mem_cons.1 hc with rfl | hc
        · exact ⟨x, hx⟩
        · exact canonAll_mem r y hr c hc
theorem canonAll_fix (g : List UInt8 → List UInt8) : ∀ l : List (List UInt8), (∀ c ∈ l, canonL (g c) = some c) → canonAll (l.map g) = some l
  | [], _ => rfl
  | x :: r, h => by
    rw [List.map_cons, canonAll, h x (by simp), canonAll_fix g r (fun c hc => h c (by simp [hc]))]; rfl
theorem code_cases (l : List (List UInt8)) : makeCode l = 4 ∨ makeCode l = 7 ∨ makeCode l = 0 := by
  rw [makeCode]; split
  · exact .inl rfl
  · split
    · exact .inr (.inl rfl)
    · exact .inr (.inr rfl)
theorem set_empty {l : List (List UInt8)} (h : makeCode l ≠ 0) : makeSet l = [] := by
  rw [makeCode] at h; rw [makeSet]
  split
  · rfl
  · rename_i cs hc
    rw [hc] at h
    split
    · rfl
    · rename_i hn; simp only [if_neg hn] at h; exact absurd rfl h
theorem set_made {l : List (List UInt8)} (h : makeCode l = 0) : ∃ cs, canonAll l = some cs ∧ makeSet l = fset cs ∧ (fset cs).length ≤ 16 := by
  rw [makeCode] at h
  cases hc : canonAll l with
  | none => rw [hc] at h; cases h
  | some cs =>
    rw [hc] at h
    by_cases hn : 16 < (fset cs).length
    · simp only [if_pos hn] at h; cases h
    · refine ⟨cs, rfl, ?_, by omega⟩
      rw [makeSet, hc]; simp only [if_neg hn]
theorem made_right {l : List (List UInt8)} (h : makeCode l = 0) : rightB (makeSet l) = true := by
  obtain ⟨cs, hc, hm, h16⟩ := set_made h
  rw [hm]
  refine (rightB_iff _).2 ⟨fun f hf => ?_, h16, sorted_setS flt_sto cs⟩
  obtain ⟨s, hs⟩ := canonAll_mem l cs hc f ((mem_setS flt_sto cs f).1 hf)
  exact (canonL_up hs).1
/-- turned round, in great letters, and made again: the set -/
theorem made_again {m : List (List UInt8)} (h : rightB m = true) : makeCode (m.reverse.map upL) = 0 ∧ makeSet (m.reverse.map upL) = m := by
  obtain ⟨h1, h2, h3⟩ := (rightB_iff m).1 h
  have hc : canonAll (m.reverse.map upL) = some m.reverse := canonAll_fix upL m.reverse fun c hc => (canonL_up (h1 c (by simpa using hc))).2.1
  have hf : fset m.reverse = m := by
    have e : fset m.reverse = setS flt m := setS_congr flt_sto _ _ (fun x => by simp)
    rw [e, setS_of_sorted flt_sto m h3]
  constructor
  · rw [makeCode, hc]; simp only [hf]; rw [if_neg (by omega)]
  · rw [makeSet, hc]; simp only [hf]; rw [if_neg (by omega)]
theorem right_short {m : List (List UInt8)} (h : rightB m = true) : ∀ c ∈ m, c.length ≤ 32 := fun c hc => (canonL_up (((rightB_iff m).1 h).1 c hc)).2.2

theorem short_of {l : List (List UInt8)} (h : ∀ c ∈ l, c.length ≤ 32) : Sized l := fun x hx => small_size x (by have := h x hx; omega)
theorem right_16 {l : List (List UInt8)} (h : rightB l = true) : l.length ≤ 16 := ((rightB_iff l).1 h).2.1
end Go.Proofs.YtfglfoapgpghkaaDoor
