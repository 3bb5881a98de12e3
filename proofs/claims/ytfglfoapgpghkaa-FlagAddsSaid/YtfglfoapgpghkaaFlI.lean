/- great letters; the laws FlagNames and FlagOnce: walked. -/
import Derived.Test.YtfglfoapgpghkaaFlH
namespace Go.Proofs.Ytfglfoapgpghkaa
open Go.RowKit

/- what is kept of what is kept -/
theorem byte_all (p : UInt8 → Bool) (h : ∀ n, n < 256 → p (UInt8.ofNat n) = true) (b : UInt8) : p b = true := by
  have := h b.toNat b.toNat_lt
  rwa [UInt8.ofNat_toNat] at this
theorem up_low (b : UInt8) : upB (lowB b) = upB b := by simpa using byte_all (fun b => upB (lowB b) == upB b) (by decide +kernel) b
theorem up_up (b : UInt8) : upB (upB b) = upB b := by simpa using byte_all (fun b => upB (upB b) == upB b) (by decide +kernel) b
theorem low_low (b : UInt8) : lowB (lowB b) = lowB b := by simpa using byte_all (fun b => lowB (lowB b) == lowB b) (by decide +kernel) b
theorem low_up (b : UInt8) : lowB (upB b) = lowB b := by simpa using byte_all (fun b => lowB (upB b) == lowB b) (by decide +kernel) b
theorem atom_low (b : UInt8) : atomB (lowB b).toNat = atomB b.toNat := by simpa using byte_all (fun b => atomB (lowB b).toNat == atomB b.toNat) (by decide +kernel) b
theorem atom_up (b : UInt8) : atomB (upB b).toNat = atomB b.toNat := by simpa using byte_all (fun b => atomB (upB b).toNat == atomB b.toNat) (by decide +kernel) b
theorem upL_low (l : List UInt8) : upL (lowL l) = upL l := by simp [upL, lowL, up_low]
theorem upL_up (l : List UInt8) : upL (upL l) = upL l := by simp [upL, up_up]
theorem lowL_low (l : List UInt8) : lowL (lowL l) = lowL l := by simp [lowL, low_low]
theorem lowL_up (l : List UInt8) : lowL (upL l) = lowL l := by simp [upL, lowL, low_up]
theorem keyB_map (g : UInt8 → UInt8) (hg : ∀ b, atomB (g b).toNat = atomB b.toNat) (l : List UInt8) : keyB (l.map g) = keyB l := by
  have h1 : allB atomB (l.map g) = allB atomB l := by
    induction l with
    | nil => rfl
    | cons x r ih =>
      have e : ∀ (y : UInt8) (m : List UInt8), allB atomB (y :: m) = (atomB y.toNat && allB atomB m) := fun _ _ => rfl
      rw [List.map_cons, e, e, ih, hg]
  have h2 : (l.map g).isEmpty = l.isEmpty := by cases l <;> rfl
  rw [keyB, keyB, allS, allS, h1, h2, List.length_map]
theorem sys_find {s f : List UInt8} (h : sysL.find? (fun f => upL f == upL s) = some f) : f ∈ sysL := List.mem_of_find?_eq_some h
theorem sys_canon : ∀ f ∈ sysL, canonL f = some f ∧ canonL (upL f) = some f ∧ f.length ≤ 32 := by decide +kernel
theorem canonL_up {s c : List UInt8} (h : canonL s = some c) : canonL c = some c ∧ canonL (upL c) = some c ∧ c.length ≤ 32 := by
  unfold canonL at h
  cases hf : sysL.find? (fun f => upL f == upL s) with
  | some f =>
    rw [hf] at h
    have : f = c := Option.some.inj h
    subst this
    exact sys_canon f (sys_find hf)
  | none =>
    rw [hf] at h
    by_cases hk : keyB s = true
    · simp only [hk, if_true] at h
      have hc : lowL s = c := Option.some.inj h
      subst hc
      have hk1 : keyB (lowL s) = true := (keyB_map lowB atom_low s).trans hk
      have hk2 : keyB (upL (lowL s)) = true := (keyB_map upB atom_up _).trans hk1
      refine ⟨?_, ?_, ?_⟩
      · unfold canonL; rw [upL_low, hf]; simp only [hk1, if_true, lowL_low]
      · unfold canonL; rw [upL_up, upL_low, hf]; rw [upL_low] at hk2; simp only [hk2, if_true, lowL_up]
      · have h3 := hk1
        rw [keyB, Bool.and_eq_true] at h3
        exact of_decide_eq_true h3.2
    · simp only [hk] at h; cases h
theorem canonAll_mem : ∀ (l cs : List (List UInt8)), canonAll l = some cs → ∀ c ∈ cs, ∃ s, canonL s = some c
  | [], cs, h, c, hc => by simp [canonAll] at h; subst h; cases hc
  | x :: r, cs, h, c, hc => by
    rw [canonAll] at h
    cases hx : canonL x with
    | none => rw [hx] at h; cases h
    | some a =>
      rw [hx] at h
      cases hr : canonAll r with
      | none => rw [hr] at h; cases h
      | some y =>
        rw [hr] at h
        obtain rfl := Option.some.inj h
        rcases List.mem_cons.1 hc with rfl | hc
        · exact ⟨x, hx⟩
        · exact canonAll_mem r y hr c hc
theorem canonAll_fix (g : List UInt8 → List UInt8) : ∀ l : List (List UInt8), (∀ c ∈ l, canonL (g c) = some c) → canonAll (l.map g) = some l
  | [], _ => rfl
  | x :: r, h => by
    rw [List.map_cons, canonAll, h x (by simp), canonAll_fix g r (fun c hc => h c (by simp [hc]))]; rfl
theorem code_cases (l : List (List UInt8)) : makeCode l = 4 ∨ makeCode l = 7 ∨ makeCode l = 0 := by
  rw [makeCode]; split
  · exact .inl rfl
  · split
    · exact .inr (.inl rfl)
    · exact .inr (.inr rfl)
theorem set_empty {l : List (List UInt8)} (h : makeCode l ≠ 0) : makeSet l = [] := by
  rw [makeCode] at h; rw [makeSet]
  split
  · rfl
  · rename_i cs hc
    rw [hc] at h
    split
    · rfl
    · rename_i hn; simp only [if_neg hn] at h; exact absurd rfl h
theorem set_made {l : List (List UInt8)} (h : makeCode l = 0) : ∃ cs, canonAll l = some cs ∧ makeSet l = fset cs ∧ (fset cs).length ≤ 16 := by
  rw [makeCode] at h
  cases hc : canonAll l with
  | none => rw [hc] at h; cases h
  | some cs =>
    rw [hc] at h
    by_cases hn : 16 < (fset cs).length
    · simp only [if_pos hn] at h; cases h
    · refine ⟨cs, rfl, ?_, by omega⟩
      rw [makeSet, hc]; simp only [if_neg hn]
theorem made_right {l : List (List UInt8)} (h : makeCode l = 0) : rightB (makeSet l) = true := by
  obtain ⟨cs, hc, hm, h16⟩ := set_made h
  rw [hm]
  refine (rightB_iff _).2 ⟨fun f hf => ?_, h16, sorted_setS flt_sto cs⟩
  obtain ⟨s, hs⟩ := canonAll_mem l cs hc f ((mem_setS flt_sto cs f).1 hf)
  exact (canonL_up hs).1
/-- turned round, in great letters, and made again: the set -/
theorem made_again {m : List (List UInt8)} (h : rightB m = true) : makeCode (m.reverse.map upL) = 0 ∧ makeSet (m.reverse.map upL) = m := by
  obtain ⟨h1, h2, h3⟩ := (rightB_iff m).1 h
  have hc : canonAll (m.reverse.map upL) = some m.reverse := canonAll_fix upL m.reverse fun c hc => (canonL_up (h1 c (by simpa using hc))).2.1
  have hf : fset m.reverse = m := by
    have e : fset m.reverse = setS flt m := setS_congr flt_sto _ _ (fun x => by simp)
    rw [e, setS_of_sorted flt_sto m h3]
  constructor
  · rw [makeCode, hc]; simp only [hf]; rw [if_neg (by omega)]
  · rw [makeSet, hc]; simp only [hf]; rw [if_neg (by omega)]
theorem right_short {m : List (List UInt8)} (h : rightB m = true) : ∀ c ∈ m, c.length ≤ 32 := fun c hc => (canonL_up (((rightB_iff m).1 h).1 c hc)).2.2

set_option maxHeartbeats 1000000 in
theorem great_any (s : ByteArray) (hs : s.size ≤ maxLen) (w : World) :
    Calls Try.prog 12 #[.string s] w (RetStr (upL s.data.toList) w) := by
  unfold maxLen at hs
  have kc := fun (w : World) => Lib.run_convert_string_bytes (P := Try.prog) w 9 43 5 s Try.underlying9 Try.underlying43 Try.underlying5
  go_enter Try.func12, Try.ntmps12
  go_wp2_with fail
  clear kc
  go_loopw [4] (fun i wr => ∃ (k : Nat), k ≤ s.size ∧ i = .int .i64 k ∧ ByteRow wr w.heap.size 5 (upTo s.data.toList k) ∧ Below w.heap.size w wr) (fun i _ => s.size - (intOf i).toNat)
  case atStart => exact ⟨0, Nat.zero_le _, rfl, byteRow_conv _ _ _, below_conv _ _ _⟩
  case round =>
    obtain ⟨k, hk, rfl, hr, hb⟩ := hrel
    by_cases hlt : k < s.size
    · have hc := hr.cell k (by rw [upTo_length]; exact hlt)
      have hf := hr.free k (by rw [upTo_length]; exact hlt)
      rw [upTo_at s k hlt] at hc
      go_wp2_with fail
      · exact ⟨⟨k + 1, by omega, by go_num, by rw [upTo_yes s k hlt]; exact hr.set k (by rw [upTo_length]; exact hlt) _ _ (by rw [upB_yes _ (by assumption) (by assumption)]), hb.setCell (Nat.le_refl _) _⟩, by simp [intOf]; omega⟩
      · exact ⟨⟨k + 1, by omega, by go_num, by rw [upTo_no s k hlt (upB_no _ (by omega))]; exact hr, hb⟩, by simp [intOf]; omega⟩
      · exact ⟨⟨k + 1, by omega, by go_num, by rw [upTo_no s k hlt (upB_no _ (by omega))]; exact hr, hb⟩, by simp [intOf]; omega⟩
    · obtain rfl : k = s.size := by omega
      have kb := hr.back (P := Try.prog) 43 9 s.size (grownCap w s.size 0 5) Try.underlying43 Try.underlying5 Try.underlying9 (by rw [upTo_length, size_len])
      rw [upTo_all] at kb
      go_wp2_with fail
      go_ret
      exact ⟨_, rfl, rfl, hb⟩
theorem canon_same {s : List UInt8} {a b : ByteArray} {x y : Bool} (h1 : Hid (canonL s = (if x then some a.data.toList else none) ∧ (x = false → a = ⟨#[]⟩))) (h2 : Hid (canonL s = (if y then some b.data.toList else none) ∧ (y = false → b = ⟨#[]⟩))) : a = b ∧ x = y := by
  have e := h1.out.1.symm.trans h2.out.1
  cases x <;> cases y
  · exact ⟨(h1.out.2 rfl).trans (h2.out.2 rfl).symm, rfl⟩
  · cases e
  · cases e
  · have := Option.some.inj e
    refine ⟨?_, rfl⟩
    cases a; cases b; simp at this; simp [this]
set_option maxRecDepth 100000 in
set_option maxHeartbeats 1000000 in
theorem flagNames_any (s : ByteArray) (v : Value) (l : List (List UInt8)) (hz : s.size ≤ reachBytes) (w : World) (hr : Rd w v l.length (l.map encStr)) (hl : (l.length + 2) * 16 ≤ 140737488355328) (hs : Sized l) :
    Calls Try.prog 5 #[.string s, v] w fun e w' => e = .returned (.bool true) ∧ Below w.heap.size w w' := by
  have hr0 := Lib.hid hr
  have hsm : s.size ≤ maxLen := by unfold reachBytes at hz; unfold maxLen; omega
  replace hsm := Lib.hid hsm
  clear hz
  go_enter Try.func5, Try.ntmps5
  go_wp2_with fail
  refine (canon_any s hsm.out w).mono ?_
  rintro e w1 ⟨u, ok, rfl, hu, b1⟩
  go_wp2_with fail
  refine (refCanon_any s hsm.out w1).mono ?_
  rintro e w2 ⟨u2, ok2, rfl, hu2, b2⟩
  obtain ⟨rfl, rfl⟩ := canon_same hu hu2
  have b2' := Lib.hid (b1.out.trans (b2.out.mono b1.out.size))
  have hq : (u.toList == u.toList) = true := by simp
  have hq2 : (ok == ok) = true := by simp
  clear hu hu2 b1 b2
  go_wp2_with fail
  refine (alive_any w2).mono ?_
  rintro e w3 ⟨rfl, b3⟩
  have b3' := Lib.hid (b2'.out.trans (b3.mono b2'.out.size))
  have hr3 := Lib.hid (hr0.out.below b3'.out)
  clear b2' b3
  go_wp2_with fail
  refine (right_any v l w3 hr3.out hl hs).mono ?_
  rintro e w4 ⟨rfl, b4⟩
  have b4' := Lib.hid (b3'.out.trans (b4.out.mono b3'.out.size))
  have hr4 := Lib.hid (hr0.out.below b4'.out)
  clear b3' b4 hr3
  go_wp2_with fail
  refine (refRight_any v l w4 hr4.out hl hs).mono ?_
  rintro e w5 ⟨rfl, b5⟩
  have b5' := Lib.hid (b4'.out.trans (b5.out.mono b4'.out.size))
  have hr5 := Lib.hid (hr0.out.below b5'.out)
  have hq3 : (rightB l == rightB l) = true := by simp
  clear b4' b5 hr4
  generalize rightB l = R at hq3 ⊢
  go_wp2_with fail
  refine (has_any v l s w5 hr5.out (by omega)).mono ?_
  rintro e w6 ⟨rfl, rfl⟩
  go_wp2_with fail
  refine (refHas_any v l s w5 hr5.out (by omega)).mono ?_
  rintro e w6 ⟨rfl, rfl⟩
  have hq4 : (decide (s.data.toList ∈ l) == decide (s.data.toList ∈ l)) = true := by simp
  generalize decide (s.data.toList ∈ l) = R2 at hq4 ⊢
  go_wp2_with fail
  go_ret
  exact ⟨by simp, b5'.out⟩
end Go.Proofs.Ytfglfoapgpghkaa
