/- The law FlagAdds: walked. -/
import Derived.Test.YtfglfoapgpghkaaFlO
namespace Go.Proofs.Ytfglfoapgpghkaa
open Go.RowKit

theorem ch_bad {l by_ : List (List UInt8)} (how : Int) (h : rightB l = false ∨ rightB by_ = false) : chCode l how by_ = 1 := by
  have : chOk l how by_ = false := by
    rw [chOk]
    rcases h with h | h <;> rw [h] <;> simp
  rw [chCode, this]; rfl
theorem right_sub {l : List (List UInt8)} (h : rightB l = true) (p : List UInt8 → Bool) : rightB (l.filter p) = true := by
  obtain ⟨h1, h2, h3⟩ := (rightB_iff l).1 h
  exact (rightB_iff _).2 ⟨fun f hf => h1 f ((List.mem_filter.1 hf).1), Nat.le_trans (List.length_filter_le _ _) h2, h3.sublist List.filter_sublist⟩
theorem ch_take {l by_ : List (List UInt8)} (h1 : rightB l = true) (h2 : rightB by_ = true) : chCode l 2 by_ = 0 ∧ chSet l 2 by_ = l.filter fun x => !decide (x ∈ by_) := by
  have hk := ch_okk (how := 2) h1 h2 (by omega) (by omega)
  have hn : ¬ 16 < (fset (chIn l 2 by_)).length := by
    rw [ch_in2, right_filter h1]
    have := right_16 (right_sub h1 fun x => !decide (x ∈ by_))
    omega
  rw [chCode, chSet, hk, if_pos rfl, if_pos rfl, if_neg hn, if_neg hn, ch_in2, right_filter h1]
  exact ⟨rfl, rfl⟩
theorem ch_put {l by_ : List (List UInt8)} (h1 : rightB l = true) (h2 : rightB by_ = true) : chCode l 0 by_ = 0 ∧ chSet l 0 by_ = by_ := by
  have hk := ch_okk (how := 0) h1 h2 (by omega) (by omega)
  have hn : ¬ 16 < (fset (chIn l 0 by_)).length := by
    rw [ch_in0, right_set h2]
    have := right_16 h2
    omega
  rw [chCode, chSet, hk, if_pos rfl, if_pos rfl, if_neg hn, if_neg hn, ch_in0, right_set h2]
  exact ⟨rfl, rfl⟩
theorem ch_more {l by_ : List (List UInt8)} (h1 : rightB l = true) (h2 : rightB by_ = true) (h : ¬ 16 < (fset (l ++ by_)).length) : chCode l 1 by_ = 0 ∧ chSet l 1 by_ = fset (l ++ by_) := by
  have hk := ch_okk (how := 1) h1 h2 (by omega) (by omega)
  have hn : ¬ 16 < (fset (chIn l 1 by_)).length := by rw [ch_in1]; exact h
  rw [chCode, chSet, hk, if_pos rfl, if_pos rfl, if_neg hn, if_neg hn, ch_in1]
  exact ⟨rfl, rfl⟩
theorem ch_over {l by_ : List (List UInt8)} (h1 : rightB l = true) (h2 : rightB by_ = true) (h : 16 < (fset (l ++ by_)).length) : chCode l 1 by_ = 7 ∧ 16 < l.length + by_.length := by
  have hk := ch_okk (how := 1) h1 h2 (by omega) (by omega)
  have hn : 16 < (fset (chIn l 1 by_)).length := by rw [ch_in1]; exact h
  refine ⟨by rw [chCode, hk, if_pos rfl, if_pos hn], ?_⟩
  have : (fset (l ++ by_)).length ≤ (l ++ by_).length := setS_len flt _
  rw [List.length_append] at this
  omega
theorem right_more {l by_ : List (List UInt8)} (h1 : rightB l = true) (h2 : rightB by_ = true) (h : ¬ 16 < (fset (l ++ by_)).length) : rightB (fset (l ++ by_)) = true := by
  refine (rightB_iff _).2 ⟨fun f hf => ?_, by omega, sorted_setS flt_sto _⟩
  rcases List.mem_append.1 ((mem_setS flt_sto _ f).1 hf) with hf | hf
  · exact ((rightB_iff l).1 h1).1 f hf
  · exact ((rightB_iff by_).1 h2).1 f hf
theorem more_more (l by_ : List (List UInt8)) : fset (fset (l ++ by_) ++ by_) = fset (l ++ by_) := by
  refine setS_congr flt_sto _ _ fun x => ?_
  rw [List.mem_append, List.mem_append]
  rw [show x ∈ fset (l ++ by_) ↔ x ∈ l ++ by_ from mem_setS flt_sto _ x, List.mem_append]
  constructor
  · rintro (h | h)
    · exact h
    · exact .inr h
  · exact fun h => .inl h
/-- what the law's walk needs of the plain sets -/
structure AddFacts (l by_ : List (List UInt8)) (f : List UInt8) (A B : Bool) (L M : List (List UInt8)) : Prop where
  hA : decide (f ∈ l) = A
  hB : decide (f ∈ by_) = B
  take : chCode l 2 by_ = 0 ∧ chSet l 2 by_ = L
  takeAgain : chCode L 2 by_ = 0 ∧ chSet L 2 by_ = L
  takeHas : decide (f ∈ L) = (A && !B)
  sizedL : Sized L
  lenL : L.length ≤ 16
  put : chCode l 0 by_ = 0 ∧ chSet l 0 by_ = by_
  add : (chCode l 1 by_ = 7 ∧ 16 < l.length + by_.length) ∨ (chCode l 1 by_ = 0 ∧ chSet l 1 by_ = M ∧ chCode M 1 by_ = 0 ∧ chSet M 1 by_ = M ∧ decide (f ∈ M) = (A || B) ∧ Sized M ∧ M.length ≤ 16)
theorem add_facts {l by_ : List (List UInt8)} (f : List UInt8) (h1 : rightB l = true) (h2 : rightB by_ = true) : AddFacts l by_ f (decide (f ∈ l)) (decide (f ∈ by_)) (l.filter fun x => !decide (x ∈ by_)) (fset (l ++ by_)) := by
  have hL := right_sub h1 fun x => !decide (x ∈ by_)
  refine ⟨rfl, rfl, ch_take h1 h2, ?_, ?_, short_of (right_short hL), right_16 hL, ch_put h1 h2, ?_⟩
  · have h := ch_take hL h2
    rwa [List.filter_filter, show (fun a : List UInt8 => (!decide (a ∈ by_)) && (!decide (a ∈ by_))) = (fun a => !decide (a ∈ by_)) from by funext a; simp] at h
  · rw [Bool.eq_iff_iff]; simp [List.mem_filter]
  · by_cases h16 : 16 < (fset (l ++ by_)).length
    · exact .inl (ch_over h1 h2 h16)
    · have hM := right_more h1 h2 h16
      have hmm := more_more l by_
      have h3 := ch_more hM h2 (by rw [hmm]; exact h16)
      rw [hmm] at h3
      refine .inr ⟨(ch_more h1 h2 h16).1, (ch_more h1 h2 h16).2, h3.1, h3.2, ?_, short_of (right_short hM), right_16 hM⟩
      rw [Bool.eq_iff_iff]
      simp only [decide_eq_true_eq, Bool.or_eq_true]
      rw [show f ∈ fset (l ++ by_) ↔ f ∈ l ++ by_ from mem_setS flt_sto _ f, List.mem_append]
set_option maxRecDepth 100000 in
set_option maxHeartbeats 8000000 in
theorem flagAdds_any (v : Value) (l : List (List UInt8)) (u : Value) (by_ : List (List UInt8)) (f : ByteArray) (_hf : f.size ≤ reachBytes) (w : World) (hr : Rd w v l.length (l.map encStr)) (hl : (l.length + 2) * 16 ≤ 140737488355328) (hs : Sized l) (hu : Rd w u by_.length (by_.map encStr)) (hul : (by_.length + 2) * 16 ≤ 140737488355328) (hus : Sized by_) :
    Calls Try.prog 7 #[v, u, .string f] w fun e w' => e = .returned (.bool true) ∧ Below w.heap.size w w' := by
  have hr0 := Lib.hid hr
  have hu0 := Lib.hid hu
  replace hs := Lib.hid hs
  replace hus := Lib.hid hus
  clear _hf
  obtain ⟨ao, cap, rfl, -⟩ := hr
  obtain ⟨ao2, cap2, rfl, -⟩ := hu
  go_enter Try.func7, Try.ntmps7
  go_wp2_with fail
  refine (alive_any w).mono ?_
  rintro e w1 ⟨rfl, b1⟩
  replace b1 := Lib.hid b1
  go_wp2_with fail
  refine (right_any _ l w1 (hr0.out.below b1.out) hl hs.out).mono ?_
  rintro e w2 ⟨rfl, b2⟩
  have b2' := Lib.hid (b1.out.trans (b2.out.mono b1.out.size))
  clear b1 b2
  cases hR : rightB l
  · have hno := Lib.hid (ch_bad (by_ := by_) 1 (.inl hR))
    replace hR := Lib.hid hR
    go_wp2_with fail
    refine (change_any _ _ l by_ 1 w2 (hr0.out.below b2'.out) (hu0.out.below b2'.out) hl hul hs.out hus.out).mono ?_
    rintro e w3 ⟨v3, rfl, r3, b3⟩
    have b3' := Lib.hid (b2'.out.trans (b3.out.mono b2'.out.size))
    rw [hno.out]
    clear r3 b3 b2'
    go_wp2_with fail
    go_ret
    exact ⟨rfl, b3'.out⟩
  · replace hR := Lib.hid hR
    go_wp2_with fail
    refine (right_any _ by_ w2 (hu0.out.below b2'.out) hul hus.out).mono ?_
    rintro e w3 ⟨rfl, b3⟩
    have b3' := Lib.hid (b2'.out.trans (b3.out.mono b2'.out.size))
    clear b3 b2'
    cases hR2 : rightB by_
    · have hno := Lib.hid (ch_bad (l := l) 1 (.inr hR2))
      replace hR2 := Lib.hid hR2
      go_wp2_with fail
      refine (change_any _ _ l by_ 1 w3 (hr0.out.below b3'.out) (hu0.out.below b3'.out) hl hul hs.out hus.out).mono ?_
      rintro e w4 ⟨v3, rfl, r4, b4⟩
      have b4' := Lib.hid (b3'.out.trans (b4.out.mono b3'.out.size))
      rw [hno.out]
      clear r4 b4 b3'
      go_wp2_with fail
      go_ret
      exact ⟨rfl, b4'.out⟩
    · have hl16 := right_16 hR.out
      have hu16 := right_16 hR2
      have hfx := Lib.hid (add_facts f.data.toList hR.out hR2)
      replace hR2 := Lib.hid hR2
      generalize decide (f.data.toList ∈ l) = A at hfx
      generalize decide (f.data.toList ∈ by_) = B at hfx
      generalize (l.filter fun x => !decide (x ∈ by_)) = L at hfx
      generalize fset (l ++ by_) = M at hfx
      have hlL := hfx.out.lenL
      have hasl := fun W => Lib.hid (fun hW => has_any (.slice ao l.length cap) l f W (hr0.out.below (w' := W) hW) (by omega))
      have hasu := fun W => Lib.hid (fun hW => has_any (.slice ao2 by_.length cap2) by_ f W (hu0.out.below (w' := W) hW) (by omega))
      rw [hfx.out.hA] at hasl
      rw [hfx.out.hB] at hasu
      replace hasl := Lib.hid hasl
      replace hasu := Lib.hid hasu
      go_wp2_with fail
      refine (change_any _ _ l by_ 2 w3 (hr0.out.below b3'.out) (hu0.out.below b3'.out) hl hul hs.out hus.out).mono ?_
      rintro e w4 ⟨v4, rfl, r4, b4⟩
      rw [hfx.out.take.1]
      rw [hfx.out.take.2] at r4
      have b4' := Lib.hid (b3'.out.trans (b4.out.mono b3'.out.size))
      clear b4 b3'
      go_wp2_with fail
      refine (change_any _ _ L by_ 2 w4 r4.out (hu0.out.below b4'.out) (by omega) hul hfx.out.sizedL hus.out).mono ?_
      rintro e w5 ⟨v5, rfl, r5, b5⟩
      rw [hfx.out.takeAgain.1]
      rw [hfx.out.takeAgain.2] at r5
      have b5' := Lib.hid (b4'.out.trans (b5.out.mono b4'.out.size))
      have r45 := Lib.hid (r4.out.below b5.out)
      clear b5 b4' r4
      go_wp2_with fail
      refine (same_any v5 v4 L L w5 r5.out r45.out (by omega)).mono ?_
      rintro e w6 ⟨rfl, b6⟩
      rw [show decide (L = L) = true from by simp]
      have b6' := Lib.hid (b5'.out.trans (b6.mono b5'.out.size))
      have r46 := Lib.hid (r45.out.below b6)
      clear b6 b5' r5 r45
      go_wp2_with fail
      refine (has_any v4 L f w6 r46.out (by omega)).mono ?_
      rintro e w7 ⟨rfl, rfl⟩
      rw [hfx.out.takeHas]
      cases A <;> cases B
      · rw [show (false && !false) = false from rfl]
        go_wp2_with fail
        refine ((hasl.out w6).out b6'.out).mono ?_
        rintro e w7 ⟨rfl, rfl⟩
        go_wp2_with fail
        refine (change_any _ _ l by_ 1 w6 (hr0.out.below b6'.out) (hu0.out.below b6'.out) hl hul hs.out hus.out).mono ?_
        rintro e w8 ⟨v8, rfl, r8, b8⟩
        have b8' := Lib.hid (b6'.out.trans (b8.out.mono b6'.out.size))
        clear b8 b6' r46
        rcases hfx.out.add with ⟨h7, hlen⟩ | hM
        · rw [h7]
          clear r8 h7
          have hlen2 : decide ((16 : Int) < (l.length : Int) + (by_.length : Int)) = true := decide_eq_true (by omega)
          go_wp2_with fail
          go_ret
          exact ⟨by rw [← hlen2]; rfl, b8'.out⟩
        · obtain ⟨m1, m2, m3, m4, m5, m6, m7⟩ := hM
          rw [m1]
          rw [m2] at r8
          replace m3 := Lib.hid m3
          replace m4 := Lib.hid m4
          replace m5 := Lib.hid m5
          replace m6 := Lib.hid m6
          clear m1 m2
          go_wp2_with fail
          refine (change_any _ _ M by_ 1 w8 r8.out (hu0.out.below b8'.out) (by omega) hul m6.out hus.out).mono ?_
          rintro e w9 ⟨v9, rfl, r9, b9⟩
          rw [m3.out]
          rw [m4.out] at r9
          have b9' := Lib.hid (b8'.out.trans (b9.out.mono b8'.out.size))
          have r89 := Lib.hid (r8.out.below b9.out)
          clear b9 b8' r8
          go_wp2_with fail
          refine (change_any _ _ l by_ 0 w9 (hr0.out.below b9'.out) (hu0.out.below b9'.out) hl hul hs.out hus.out).mono ?_
          rintro e wa ⟨va, rfl, ra, ba⟩
          rw [hfx.out.put.1]
          rw [hfx.out.put.2] at ra
          have ba' := Lib.hid (b9'.out.trans (ba.out.mono b9'.out.size))
          have r8a := Lib.hid (r89.out.below ba.out)
          have r9a := Lib.hid (r9.out.below ba.out)
          clear ba b9' r89 r9
          go_wp2_with fail
          refine (same_any v9 v8 M M wa r9a.out r8a.out (by omega)).mono ?_
          rintro e wb ⟨rfl, bb⟩
          rw [show decide (M = M) = true from by simp]
          have bb' := Lib.hid (ba'.out.trans (bb.mono ba'.out.size))
          have r8b := Lib.hid (r8a.out.below bb)
          have rab := Lib.hid (ra.out.below bb)
          clear bb ba' r8a r9a ra
          go_wp2_with fail
          refine (has_any v8 M f wb r8b.out (by omega)).mono ?_
          rintro e w7 ⟨rfl, rfl⟩
          rw [m5.out, show (false || false) = false from rfl]
          go_wp2_with fail
          refine ((hasl.out wb).out bb'.out).mono ?_
          rintro e w7 ⟨rfl, rfl⟩
          go_wp2_with fail
          refine ((hasu.out wb).out bb'.out).mono ?_
          rintro e w7 ⟨rfl, rfl⟩
          go_wp2_with fail
          refine (same_any va _ by_ by_ wb rab.out (hu0.out.below bb'.out) (by omega)).mono ?_
          rintro e wc ⟨rfl, bc⟩
          rw [show decide (by_ = by_) = true from by simp]
          have bc' := Lib.hid (bb'.out.trans (bc.mono bb'.out.size))
          clear bc bb' r8b rab
          go_wp2_with fail
          go_ret
          exact ⟨rfl, bc'.out⟩
      · rw [show (false && !true) = false from rfl]
        go_wp2_with fail
        refine ((hasl.out w6).out b6'.out).mono ?_
        rintro e w7 ⟨rfl, rfl⟩
        go_wp2_with fail
        refine (change_any _ _ l by_ 1 w6 (hr0.out.below b6'.out) (hu0.out.below b6'.out) hl hul hs.out hus.out).mono ?_
        rintro e w8 ⟨v8, rfl, r8, b8⟩
        have b8' := Lib.hid (b6'.out.trans (b8.out.mono b6'.out.size))
        clear b8 b6' r46
        rcases hfx.out.add with ⟨h7, hlen⟩ | hM
        · rw [h7]
          clear r8 h7
          have hlen2 : decide ((16 : Int) < (l.length : Int) + (by_.length : Int)) = true := decide_eq_true (by omega)
          go_wp2_with fail
          go_ret
          exact ⟨by rw [← hlen2]; rfl, b8'.out⟩
        · obtain ⟨m1, m2, m3, m4, m5, m6, m7⟩ := hM
          rw [m1]
          rw [m2] at r8
          replace m3 := Lib.hid m3
          replace m4 := Lib.hid m4
          replace m5 := Lib.hid m5
          replace m6 := Lib.hid m6
          clear m1 m2
          go_wp2_with fail
          refine (change_any _ _ M by_ 1 w8 r8.out (hu0.out.below b8'.out) (by omega) hul m6.out hus.out).mono ?_
          rintro e w9 ⟨v9, rfl, r9, b9⟩
          rw [m3.out]
          rw [m4.out] at r9
          have b9' := Lib.hid (b8'.out.trans (b9.out.mono b8'.out.size))
          have r89 := Lib.hid (r8.out.below b9.out)
          clear b9 b8' r8
          go_wp2_with fail
          refine (change_any _ _ l by_ 0 w9 (hr0.out.below b9'.out) (hu0.out.below b9'.out) hl hul hs.out hus.out).mono ?_
          rintro e wa ⟨va, rfl, ra, ba⟩
          rw [hfx.out.put.1]
          rw [hfx.out.put.2] at ra
          have ba' := Lib.hid (b9'.out.trans (ba.out.mono b9'.out.size))
          have r8a := Lib.hid (r89.out.below ba.out)
          have r9a := Lib.hid (r9.out.below ba.out)
          clear ba b9' r89 r9
          go_wp2_with fail
          refine (same_any v9 v8 M M wa r9a.out r8a.out (by omega)).mono ?_
          rintro e wb ⟨rfl, bb⟩
          rw [show decide (M = M) = true from by simp]
          have bb' := Lib.hid (ba'.out.trans (bb.mono ba'.out.size))
          have r8b := Lib.hid (r8a.out.below bb)
          have rab := Lib.hid (ra.out.below bb)
          clear bb ba' r8a r9a ra
          go_wp2_with fail
          refine (has_any v8 M f wb r8b.out (by omega)).mono ?_
          rintro e w7 ⟨rfl, rfl⟩
          rw [m5.out, show (false || true) = true from rfl]
          go_wp2_with fail
          refine ((hasl.out wb).out bb'.out).mono ?_
          rintro e w7 ⟨rfl, rfl⟩
          go_wp2_with fail
          refine ((hasu.out wb).out bb'.out).mono ?_
          rintro e w7 ⟨rfl, rfl⟩
          go_wp2_with fail
          refine (same_any va _ by_ by_ wb rab.out (hu0.out.below bb'.out) (by omega)).mono ?_
          rintro e wc ⟨rfl, bc⟩
          rw [show decide (by_ = by_) = true from by simp]
          have bc' := Lib.hid (bb'.out.trans (bc.mono bb'.out.size))
          clear bc bb' r8b rab
          go_wp2_with fail
          go_ret
          exact ⟨rfl, bc'.out⟩
      · rw [show (true && !false) = true from rfl]
        go_wp2_with fail
        refine ((hasl.out w6).out b6'.out).mono ?_
        rintro e w7 ⟨rfl, rfl⟩
        go_wp2_with fail
        refine ((hasu.out w6).out b6'.out).mono ?_
        rintro e w7 ⟨rfl, rfl⟩
        go_wp2_with fail
        refine (change_any _ _ l by_ 1 w6 (hr0.out.below b6'.out) (hu0.out.below b6'.out) hl hul hs.out hus.out).mono ?_
        rintro e w8 ⟨v8, rfl, r8, b8⟩
        have b8' := Lib.hid (b6'.out.trans (b8.out.mono b6'.out.size))
        clear b8 b6' r46
        rcases hfx.out.add with ⟨h7, hlen⟩ | hM
        · rw [h7]
          clear r8 h7
          have hlen2 : decide ((16 : Int) < (l.length : Int) + (by_.length : Int)) = true := decide_eq_true (by omega)
          go_wp2_with fail
          go_ret
          exact ⟨by rw [← hlen2]; rfl, b8'.out⟩
        · obtain ⟨m1, m2, m3, m4, m5, m6, m7⟩ := hM
          rw [m1]
          rw [m2] at r8
          replace m3 := Lib.hid m3
          replace m4 := Lib.hid m4
          replace m5 := Lib.hid m5
          replace m6 := Lib.hid m6
          clear m1 m2
          go_wp2_with fail
          refine (change_any _ _ M by_ 1 w8 r8.out (hu0.out.below b8'.out) (by omega) hul m6.out hus.out).mono ?_
          rintro e w9 ⟨v9, rfl, r9, b9⟩
          rw [m3.out]
          rw [m4.out] at r9
          have b9' := Lib.hid (b8'.out.trans (b9.out.mono b8'.out.size))
          have r89 := Lib.hid (r8.out.below b9.out)
          clear b9 b8' r8
          go_wp2_with fail
          refine (change_any _ _ l by_ 0 w9 (hr0.out.below b9'.out) (hu0.out.below b9'.out) hl hul hs.out hus.out).mono ?_
          rintro e wa ⟨va, rfl, ra, ba⟩
          rw [hfx.out.put.1]
          rw [hfx.out.put.2] at ra
          have ba' := Lib.hid (b9'.out.trans (ba.out.mono b9'.out.size))
          have r8a := Lib.hid (r89.out.below ba.out)
          have r9a := Lib.hid (r9.out.below ba.out)
          clear ba b9' r89 r9
          go_wp2_with fail
          refine (same_any v9 v8 M M wa r9a.out r8a.out (by omega)).mono ?_
          rintro e wb ⟨rfl, bb⟩
          rw [show decide (M = M) = true from by simp]
          have bb' := Lib.hid (ba'.out.trans (bb.mono ba'.out.size))
          have r8b := Lib.hid (r8a.out.below bb)
          have rab := Lib.hid (ra.out.below bb)
          clear bb ba' r8a r9a ra
          go_wp2_with fail
          refine (has_any v8 M f wb r8b.out (by omega)).mono ?_
          rintro e w7 ⟨rfl, rfl⟩
          rw [m5.out, show (true || false) = true from rfl]
          go_wp2_with fail
          refine ((hasl.out wb).out bb'.out).mono ?_
          rintro e w7 ⟨rfl, rfl⟩
          go_wp2_with fail
          refine (same_any va _ by_ by_ wb rab.out (hu0.out.below bb'.out) (by omega)).mono ?_
          rintro e wc ⟨rfl, bc⟩
          rw [show decide (by_ = by_) = true from by simp]
          have bc' := Lib.hid (bb'.out.trans (bc.mono bb'.out.size))
          clear bc bb' r8b rab
          go_wp2_with fail
          go_ret
          exact ⟨rfl, bc'.out⟩
      · rw [show (true && !true) = false from rfl]
        go_wp2_with fail
        refine ((hasl.out w6).out b6'.out).mono ?_
        rintro e w7 ⟨rfl, rfl⟩
        go_wp2_with fail
        refine ((hasu.out w6).out b6'.out).mono ?_
        rintro e w7 ⟨rfl, rfl⟩
        go_wp2_with fail
        refine (change_any _ _ l by_ 1 w6 (hr0.out.below b6'.out) (hu0.out.below b6'.out) hl hul hs.out hus.out).mono ?_
        rintro e w8 ⟨v8, rfl, r8, b8⟩
        have b8' := Lib.hid (b6'.out.trans (b8.out.mono b6'.out.size))
        clear b8 b6' r46
        rcases hfx.out.add with ⟨h7, hlen⟩ | hM
        · rw [h7]
          clear r8 h7
          have hlen2 : decide ((16 : Int) < (l.length : Int) + (by_.length : Int)) = true := decide_eq_true (by omega)
          go_wp2_with fail
          go_ret
          exact ⟨by rw [← hlen2]; rfl, b8'.out⟩
        · obtain ⟨m1, m2, m3, m4, m5, m6, m7⟩ := hM
          rw [m1]
          rw [m2] at r8
          replace m3 := Lib.hid m3
          replace m4 := Lib.hid m4
          replace m5 := Lib.hid m5
          replace m6 := Lib.hid m6
          clear m1 m2
          go_wp2_with fail
          refine (change_any _ _ M by_ 1 w8 r8.out (hu0.out.below b8'.out) (by omega) hul m6.out hus.out).mono ?_
          rintro e w9 ⟨v9, rfl, r9, b9⟩
          rw [m3.out]
          rw [m4.out] at r9
          have b9' := Lib.hid (b8'.out.trans (b9.out.mono b8'.out.size))
          have r89 := Lib.hid (r8.out.below b9.out)
          clear b9 b8' r8
          go_wp2_with fail
          refine (change_any _ _ l by_ 0 w9 (hr0.out.below b9'.out) (hu0.out.below b9'.out) hl hul hs.out hus.out).mono ?_
          rintro e wa ⟨va, rfl, ra, ba⟩
          rw [hfx.out.put.1]
          rw [hfx.out.put.2] at ra
          have ba' := Lib.hid (b9'.out.trans (ba.out.mono b9'.out.size))
          have r8a := Lib.hid (r89.out.below ba.out)
          have r9a := Lib.hid (r9.out.below ba.out)
          clear ba b9' r89 r9
          go_wp2_with fail
          refine (same_any v9 v8 M M wa r9a.out r8a.out (by omega)).mono ?_
          rintro e wb ⟨rfl, bb⟩
          rw [show decide (M = M) = true from by simp]
          have bb' := Lib.hid (ba'.out.trans (bb.mono ba'.out.size))
          have r8b := Lib.hid (r8a.out.below bb)
          have rab := Lib.hid (ra.out.below bb)
          clear bb ba' r8a r9a ra
          go_wp2_with fail
          refine (has_any v8 M f wb r8b.out (by omega)).mono ?_
          rintro e w7 ⟨rfl, rfl⟩
          rw [m5.out, show (true || true) = true from rfl]
          go_wp2_with fail
          refine ((hasl.out wb).out bb'.out).mono ?_
          rintro e w7 ⟨rfl, rfl⟩
          go_wp2_with fail
          refine (same_any va _ by_ by_ wb rab.out (hu0.out.below bb'.out) (by omega)).mono ?_
          rintro e wc ⟨rfl, bc⟩
          rw [show decide (by_ = by_) = true from by simp]
          have bc' := Lib.hid (bb'.out.trans (bc.mono bb'.out.size))
          clear bc bb' r8b rab
          go_wp2_with fail
          go_ret
          exact ⟨rfl, bc'.out⟩
end Go.Proofs.Ytfglfoapgpghkaa
