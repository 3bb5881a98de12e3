/- pdqsort: walked. -/
import Derived.Test.YtcnebfmlelcliaaB16
namespace Go.Proofs.Ytcnebfmlelcliaa
open Go.RowKit

def PdqRet (W0 : World) (g : Nat) (l0 : List Nat) (rest : List Value) (c d : Nat) (e : Ending) (W' : World) : Prop := e = .returned (.tuple #[]) ∧ ∃ l', Hid (Row W' g l' rest) ∧ Hid (Turned c d l0 l' ∧ SortedOn l' c d) ∧ Hid (Kept1 W0 g W')
def PdqOk (n : Nat) : Prop := ∀ (g cap : Nat) (l0 : List Nat) (rest : List Value) (c d lim : Nat) (W0 : World), d - c = n → c ≤ d → d ≤ l0.length → l0.length ≤ 2305843009213693952 → Low l0 c d → lim ≤ 1000 → Row W0 g l0 rest →
  Calls Try.prog 66 #[.slice (some ⟨g, 0, none⟩) l0.length cap, .int .i64 c, .int .i64 d, .int .i64 lim] W0 (PdqRet W0 g l0 rest c d)
theorem Low.sub {l : List Nat} {a b m : Nat} (h : Low l a b) (hm : m ≤ b) : Low l a m := fun q h0 h1 h2 => h q h0 h1 (by omega)
theorem Parted.low {l : List Nat} {a b m : Nat} (h : Parted l a b m) : Low l (m + 1) b := fun q _ h1 h2 => by
  rw [show m + 1 - 1 = m by omega]; exact h.2 q (by omega) h2
theorem Kept1.of_below {W0 W W' : World} {g : Nat} (h : Kept1 W0 g W) (hb : Below W.heap.size W W') : Kept1 W0 g W' :=
  ⟨hb.os.trans h.1, hb.tape.trans h.2.1, hb.output.trans h.2.2.1, Nat.le_trans h.2.2.2.1 hb.size, fun k hk hg => (hb.block k (Nat.lt_of_lt_of_le hk h.2.2.2.1)).trans (h.2.2.2.2 k hk hg)⟩
theorem Row.below {W W' : World} {g : Nat} {l : List Nat} {rest : List Value} (h : Row W g l rest) (hb : Below W.heap.size W W') : Row W' g l rest := (hb.block g h.lt).trans h
theorem Inv.eq_part {l0 l l' : List Nat} {c d a b m p : Nat} (h : Inv l0 l c d a b) (hd : d ≤ l0.length) (ha : 0 < a) (ham : a < m) (hmb : m ≤ b) (hnl : ¬ at_ l (a - 1) < at_ l p) (ht : Turned a b l l') (hp : ∀ q, a ≤ q → q < m → at_ l' q ≤ at_ l p) : Inv l0 l' c d m b := by
  have h2 := h.next hd ht
  have hl := h2.low
  have hb := h.bd
  have e := ht.2 (a - 1) (.inl (by omega))
  exact h2.eq (x := at_ l' (a - 1)) (fun q h3 h4 => hl q ha h3 h4) (by omega) hmb (fun q h3 h4 => by
    have := hp q h3 h4
    rw [e]; omega)
set_option maxRecDepth 100000 in
set_option maxHeartbeats 16000000 in
theorem pdq_step (N : Nat) (ih : ∀ n, n < N → PdqOk n) : PdqOk N := by
  intro g cap l0 rest c d lim W0 hN hcd hdl hlen hlow hlim hr
  replace ih := Lib.hid ih
  have hrow := Lib.hid hr
  have hinv := Lib.hid (Inv.start hcd hlow)
  have hle := Lib.hid less_any
  clear hr hlow
  go_enter Try.func66, Try.ntmps66
  go_wp2_with fail
  go_loopw [1, 2, 3, 8, 9] (fun v1 v2 v3 v8 v9 wr => ∃ (a b lim : Nat) (wb wp : Bool) (l : List Nat), v1 = .int .i64 a ∧ v2 = .int .i64 b ∧ v3 = .int .i64 lim ∧ v8 = .bool wb ∧ v9 = .bool wp ∧ lim ≤ 1000 ∧ c ≤ a ∧ a ≤ b ∧ b ≤ d ∧ Hid (Row wr g l rest) ∧ Hid (Inv l0 l c d a b) ∧ Hid (Kept1 W0 g wr)) (fun v1 v2 _ _ _ _ => (intOf v2).toNat - (intOf v1).toNat)
  case atStart => exact ⟨c, d, lim, true, true, l0, rfl, rfl, rfl, rfl, rfl, hlim, Nat.le_refl _, hcd, Nat.le_refl _, hrow, hinv, Lib.hid (Kept1.refl _ _)⟩
  case round =>
    clear hrow hinv hlim
    obtain ⟨a, b, lim, wb, wp, l, rfl, rfl, rfl, rfl, rfl, hlim, hca, hab, hbd, hrow, hinv, hk⟩ := hrel
    have hll := hinv.out.len
    by_cases h12 : b - a ≤ 12
    · have h12' : (b : Int) - (a : Int) ≤ 12 := by omega
      have hc := insertion_any g cap l rest a b hab (by omega) (by omega) wr hrow.out
      rw [hll] at hc
      replace hc := Lib.hid hc
      go_wp2_with fail
      refine hc.out.mono ?_
      rintro e w1 ⟨rfl, l', h1, h2, h3⟩
      have hh := Lib.hid ((hinv.out.next hdl h2.out.1).sorted h2.out.2)
      have hk2 := Lib.hid (hk.out.trans h3.out)
      clear hc hinv hk h2 h3
      go_wp2_with fail
      (try simp only [Exit.inBlock, Exit.then])
      refine bodyPost_ret (results_none rfl _ _ _) rfl ?_
      exact ⟨rfl, l', h1, hh, hk2⟩
    · have h12' : (12 : Int) < (b : Int) - (a : Int) := by omega
      obtain ⟨n, hn⟩ : ∃ n, n = b - a := ⟨_, rfl⟩
      have en : (a : Int) + (n : Int) = (b : Int) := by omega
      by_cases h0 : lim = 0
      · subst h0
        have hc := heapSort_any g cap l rest a n (by omega) (by omega) (by omega) wr hrow.out
        rw [hll, en, show a + n = b by omega] at hc
        replace hc := Lib.hid hc
        clear en hn
        go_wp2_with fail
        refine hc.out.mono ?_
        rintro e w1 ⟨rfl, l', h1, h2, h3⟩
        have hh := Lib.hid ((hinv.out.next hdl h2.out.1).sorted h2.out.2)
        have hk2 := Lib.hid (hk.out.trans h3.out)
        clear hc hinv hk h2 h3
        go_wp2_with fail
        (try simp only [Exit.inBlock, Exit.then])
        refine bodyPost_ret (results_none rfl _ _ _) rfl ?_
        exact ⟨rfl, l', h1, hh, hk2⟩
      · have h0' : ((lim : Int) == 0) = false := by simp; omega
        obtain ⟨R1, hR1⟩ : ∃ R : Value → World → Prop, Hid (∀ v wx, R v wx ↔ ∃ (lim : Nat) (l : List Nat), v = .int .i64 lim ∧ lim ≤ 1000 ∧ Row wx g l rest ∧ Inv l0 l c d a b ∧ Kept1 W0 g wx) := ⟨_, Lib.hid fun _ _ => Iff.rfl⟩
        obtain ⟨R2, hR2⟩ : ∃ R : Value → Value → World → Prop, Hid (∀ v u wx, R v u wx ↔ ∃ (p : Nat) (h : Int) (l : List Nat), v = .int .i64 p ∧ u = .int .i64 h ∧ a ≤ p ∧ p < b ∧ Row wx g l rest ∧ Inv l0 l c d a b ∧ Kept1 W0 g wx) := ⟨_, Lib.hid fun _ _ _ => Iff.rfl⟩
        obtain ⟨R3, hR3⟩ : ∃ R : World → Prop, Hid (∀ wx, R wx ↔ ∃ (l : List Nat), Row wx g l rest ∧ Inv l0 l c d a b ∧ Kept1 W0 g wx) := ⟨_, Lib.hid fun _ => Iff.rfl⟩
        have hbr := break_any g cap l rest a n (by omega) (by omega) (by omega) wr hrow.out
        rw [hll, en, show a + n = b by omega] at hbr
        replace hbr := Lib.hid hbr
        replace hn := Lib.hid hn
        replace en := Lib.hid en
        go_upto_if 35 with fail
        go_cut [3] from 19 to 133 (fun v3 wx => R1 v3 wx)
        case first =>
          cases wb
          · go_wp2_with fail
            refine hbr.out.mono ?_
            rintro e w1 ⟨rfl, l', h1, h2, h3⟩
            have hfin : R1 (.int .i64 ((lim : Int) - 1)) w1 := (hR1.out _ _).2 ⟨lim - 1, l', by congr 1; omega, by omega, h1.out, hinv.out.next hdl h2.out, hk.out.trans h3.out⟩
            replace hfin := Lib.hid hfin
            clear hbr h1 h2 h3
            go_wp2_with fail
            go_meet
            exact hfin.out
          · have hfin : R1 (.int .i64 (lim : Int)) wr := (hR1.out _ _).2 ⟨lim, l, rfl, hlim, hrow.out, hinv.out, hk.out⟩
            replace hfin := Lib.hid hfin
            clear hbr
            go_wp2_with fail
            go_meet
            exact hfin.out
        case rest =>
          obtain ⟨lim, l, rfl, hlim, hrow, hinv, hk⟩ := (hR1.out _ _).1 hcut
          clear hcut hbr hR1
          have hll := hinv.len
          replace hrow := Lib.hid hrow
          replace hinv := Lib.hid hinv
          replace hk := Lib.hid hk
          have hpv := pivot_any g cap l rest a n (by have := hn.out; omega) (by have := hn.out; omega) (by omega) wc hrow.out
          rw [hll, en.out] at hpv
          replace hpv := Lib.hid hpv
          go_wp2_with fail
          refine hpv.out.mono ?_
          rintro e w2 ⟨p, h, rfl, hap, hpb, hB⟩
          replace hpb : p < b := by have := hn.out; omega
          replace hrow := Lib.hid (hrow.out.below hB.out)
          replace hk := Lib.hid (hk.out.of_below hB.out)
          clear hpv hB
          have hrv := reverse_any g cap l rest a b (by omega) (by omega) (by omega) w2 hrow.out
          rw [hll] at hrv
          replace hrv := Lib.hid hrv
          go_upto_if 50 with fail
          go_cut [11, 12] from 19 to 133 (fun v11 v12 wx => R2 v11 v12 wx)
          case first =>
            by_cases h2 : h = 2
            · subst h2
              go_wp2_with fail
              refine hrv.out.mono ?_
              rintro e w3 ⟨rfl, l', g1, g2, g3⟩
              have hfin : R2 (.int .i64 ((b : Int) - 1 - ((p : Int) - (a : Int)))) (.int .i64 1) w3 := (hR2.out _ _ _).2 ⟨b - 1 - (p - a), 1, l', by congr 1; omega, rfl, by omega, by omega, g1.out, hinv.out.next hdl g2.out, hk.out.trans g3.out⟩
              replace hfin := Lib.hid hfin
              clear hrv g1 g2 g3
              go_wp2_with fail
              go_meet
              exact hfin.out
            · have h2' : (h == 2) = false := by simpa using h2
              have hfin : R2 (.int .i64 (p : Int)) (.int .i64 h) w2 := (hR2.out _ _ _).2 ⟨p, h, l, rfl, rfl, hap, hpb, hrow.out, hinv.out, hk.out⟩
              replace hfin := Lib.hid hfin
              clear hrv
              go_wp2_with fail
              go_meet
              exact hfin.out
          case rest =>
            obtain ⟨p, h, l, rfl, rfl, hap, hpb, hrow, hinv, hk⟩ := (hR2.out _ _ _).1 hcut
            clear hcut hR2 hrv
            have hll := hinv.len
            have hlow := hinv.low
            have hpa := partial_any g cap l rest a b (by omega) (by omega) (by omega) hlow wc hrow
            rw [hll] at hpa
            replace hpa := Lib.hid hpa
            replace hrow := Lib.hid hrow
            replace hinv := Lib.hid hinv
            replace hk := Lib.hid hk
            replace hlow := Lib.hid hlow
            have hq : (wb = false) ∨ (wb = true ∧ wp = false) ∨ (wb = true ∧ wp = true ∧ (h == 1) = false) ∨ (wb = true ∧ wp = true ∧ h = 1) := by
              cases wb <;> cases wp <;> simp
              exact (Decidable.em (h = 1)).symm
            clear hR3 hlow
            rcases hq with rfl | ⟨rfl, rfl⟩ | ⟨rfl, rfl, h1⟩ | ⟨rfl, rfl, rfl⟩
            · clear hpa
              by_cases ha0 : a = 0
              · have hd : decide ((0 : Int) < (a : Int)) = false := by simp; omega
                have hdn : decide (0 < a) = false := by simp; omega
                clear ha0
                go_wp2_with fail
                go_quiet (fail)
                replace hrow := Lib.hid (hrow.out.drewN nq)
                replace hk := Lib.hid (hk.out.drewN nq)
                generalize wc.drewN nq = w4 at hrow hk ⊢
                clear hd hdn
                have hpt := partition_any g cap l rest a b p hap hpb (by omega) (by omega) w4 hrow.out
                rw [hll] at hpt
                replace hpt := Lib.hid hpt
                go_wp2_with fail
                refine hpt.out.mono ?_
                rintro e w5 ⟨m, x, l1, rfl, ham, hmb, g1, g2, g3⟩
                have hinv1 := Lib.hid (hinv.out.next hdl g2.out.1)
                have hpd := Lib.hid g2.out.2
                have hk1 := Lib.hid (hk.out.trans g3.out)
                have hl1 := hinv1.out.len
                have hlow1 := Lib.hid hinv1.out.low
                clear hpt hrow hinv hk g2 g3
                by_cases hlr : (m : Int) - (a : Int) < (b : Int) - (m : Int)
                · have hc := ih.out (m - a) (by omega) g cap l1 rest a m lim w5 rfl ham (by omega) (by omega) (hlow1.out.sub (by omega)) hlim g1.out
                  rw [hl1] at hc
                  replace hc := Lib.hid hc
                  go_wp2_with fail
                  refine hc.out.mono ?_
                  rintro e w6 ⟨rfl, l2, e1, e2, e3⟩
                  have hfin : Hid (Inv l0 l2 c d (m + 1) b) := Lib.hid ((hinv1.out.next hdl (e2.out.1.wide (Nat.le_refl _) (by omega))).left (hpd.out.turnL (by omega) e2.out.1) ham hmb e2.out.2)
                  have hk2 := Lib.hid (hk1.out.trans e3.out)
                  clear hc e2 e3 hpd hinv1 hlow1 hk1 g1
                  go_wp2_with fail
                  go_roundw
                  case rel => exact ⟨m + 1, b, lim, _, x, l2, by go_num, rfl, rfl, rfl, rfl, hlim, by omega, by omega, hbd, e1, hfin, hk2⟩
                  case measure => simp [intOf] <;> omega
                · have hlr' : (b : Int) - (m : Int) ≤ (m : Int) - (a : Int) := by omega
                  have hc := ih.out (b - (m + 1)) (by omega) g cap l1 rest (m + 1) b lim w5 rfl (by omega) (by omega) (by omega) hpd.out.low hlim g1.out
                  rw [hl1, show (((m + 1 : Nat)) : Int) = (m : Int) + 1 by omega] at hc
                  replace hc := Lib.hid hc
                  go_wp2_with fail
                  refine hc.out.mono ?_
                  rintro e w6 ⟨rfl, l2, e1, e2, e3⟩
                  have hfin : Hid (Inv l0 l2 c d a m) := Lib.hid ((hinv1.out.next hdl (e2.out.1.wide (by omega) (Nat.le_refl _))).right (hpd.out.turnR (by omega) e2.out.1) ham hmb e2.out.2)
                  have hk2 := Lib.hid (hk1.out.trans e3.out)
                  clear hc e2 e3 hpd hinv1 hlow1 hk1 g1
                  go_wp2_with fail
                  go_roundw
                  case rel => exact ⟨a, m, lim, _, x, l2, rfl, rfl, rfl, rfl, rfl, hlim, hca, by omega, by omega, e1, hfin, hk2⟩
                  case measure => simp [intOf] <;> omega
              · obtain ⟨a1, ha1⟩ : ∃ a1, a = a1 + 1 := ⟨a - 1, by omega⟩
                subst ha1
                have hd : decide ((0 : Int) < (a1 : Int) + 1) = true := decide_eq_true (by omega)
                have hb1 : (a1 : Int) < (l0.length : Int) := by omega
                have hb2 : (p : Int) < (l0.length : Int) := by omega
                have hb0 : (0 : Int) ≤ (a1 : Int) := by omega
                have ci := hrow.out.at a1 (by omega)
                have cj := hrow.out.at p (by omega)
                have hcmp := Lib.hid (fun n => hle.out (at_ l a1) (at_ l p) (wc.drewN n))
                by_cases hlt : at_ l a1 < at_ l p
                · rw [decide_eq_true hlt] at hcmp
                  clear hlt
                  generalize at_ l a1 = x1 at ci hcmp
                  generalize at_ l p = x2 at cj hcmp
                  go_wp2_with fail
                  go_quiet ((go_at_call 78; exact Calls.quiet_of_same (hcmp.out _)))
                  replace hrow := Lib.hid (hrow.out.drewN nq)
                  replace hk := Lib.hid (hk.out.drewN nq)
                  generalize wc.drewN nq = w4 at hrow hk ⊢
                  clear hcmp ci cj hd
                  have ea : (((a1 + 1 : Nat)) : Int) = (a1 : Int) + 1 := by omega
                  have hpt := partition_any g cap l rest (a1 + 1) b p hap hpb (by omega) (by omega) w4 hrow.out
                  rw [hll, ea] at hpt
                  replace hpt := Lib.hid hpt
                  go_wp2_with fail
                  refine hpt.out.mono ?_
                  rintro e w5 ⟨m, x, l1, rfl, ham, hmb, g1, g2, g3⟩
                  have hinv1 := Lib.hid (hinv.out.next hdl g2.out.1)
                  have hpd := Lib.hid g2.out.2
                  have hk1 := Lib.hid (hk.out.trans g3.out)
                  have hl1 := hinv1.out.len
                  have hlow1 := Lib.hid hinv1.out.low
                  clear hpt hrow hinv hk g2 g3
                  by_cases hlr : (m : Int) - ((a1 : Int) + 1) < (b : Int) - (m : Int)
                  · have hc := ih.out (m - (a1 + 1)) (by omega) g cap l1 rest (a1 + 1) m lim w5 rfl ham (by omega) (by omega) (hlow1.out.sub (by omega)) hlim g1.out
                    rw [hl1, ea] at hc
                    replace hc := Lib.hid hc
                    go_wp2_with fail
                    refine hc.out.mono ?_
                    rintro e w6 ⟨rfl, l2, e1, e2, e3⟩
                    have hfin : Hid (Inv l0 l2 c d (m + 1) b) := Lib.hid ((hinv1.out.next hdl (e2.out.1.wide (Nat.le_refl _) (by omega))).left (hpd.out.turnL (by omega) e2.out.1) ham hmb e2.out.2)
                    have hk2 := Lib.hid (hk1.out.trans e3.out)
                    clear hc e2 e3 hpd hinv1 hlow1 hk1 g1
                    go_wp2_with fail
                    go_roundw
                    case rel => exact ⟨m + 1, b, lim, _, x, l2, by go_num, rfl, rfl, rfl, rfl, hlim, by omega, by omega, hbd, e1, hfin, hk2⟩
                    case measure => simp [intOf] <;> omega
                  · have hlr' : (b : Int) - (m : Int) ≤ (m : Int) - ((a1 : Int) + 1) := by omega
                    have hc := ih.out (b - (m + 1)) (by omega) g cap l1 rest (m + 1) b lim w5 rfl (by omega) (by omega) (by omega) hpd.out.low hlim g1.out
                    rw [hl1, show (((m + 1 : Nat)) : Int) = (m : Int) + 1 by omega] at hc
                    replace hc := Lib.hid hc
                    go_wp2_with fail
                    refine hc.out.mono ?_
                    rintro e w6 ⟨rfl, l2, e1, e2, e3⟩
                    have hfin : Hid (Inv l0 l2 c d (a1 + 1) m) := Lib.hid ((hinv1.out.next hdl (e2.out.1.wide (by omega) (Nat.le_refl _))).right (hpd.out.turnR (by omega) e2.out.1) ham hmb e2.out.2)
                    have hk2 := Lib.hid (hk1.out.trans e3.out)
                    clear hc e2 e3 hpd hinv1 hlow1 hk1 g1
                    go_wp2_with fail
                    go_roundw
                    case rel => exact ⟨a1 + 1, m, lim, _, x, l2, by go_num, rfl, rfl, rfl, rfl, hlim, hca, by omega, by omega, e1, hfin, hk2⟩
                    case measure => simp [intOf] <;> omega
                · have hlt2 := Lib.hid hlt
                  have hpe := fun W h => partEq_any g cap l rest (a1 + 1) b p hap hpb (by omega) (by omega) W h
                  rw [hll, show (((a1 + 1 : Nat)) : Int) = (a1 : Int) + 1 by omega] at hpe
                  replace hpe := Lib.hid hpe
                  rw [decide_eq_false hlt] at hcmp
                  clear hlt
                  obtain ⟨X2, hX2⟩ : ∃ X2, at_ l p = X2 := ⟨_, rfl⟩
                  obtain ⟨X1, hX1⟩ : ∃ X1, at_ l a1 = X1 := ⟨_, rfl⟩
                  rw [hX1] at ci hcmp
                  rw [hX2] at cj hcmp hpe
                  replace hX1 := Lib.hid hX1
                  replace hX2 := Lib.hid hX2
                  go_wp2_with fail
                  go_quiet ((go_at_call 78; exact Calls.quiet_of_same (hcmp.out _)))
                  replace hrow := Lib.hid (hrow.out.drewN nq)
                  replace hk := Lib.hid (hk.out.drewN nq)
                  generalize wc.drewN nq = w4 at hrow hk ⊢
                  have hc := Lib.hid (hpe.out w4 hrow.out)
                  clear hcmp ci cj hd hpe
                  go_wp2_with fail
                  refine hc.out.mono ?_
                  rintro e w5 ⟨m, l1, rfl, ham, hmb, g1, g2, g3⟩
                  have hfin : Hid (Inv l0 l1 c d m b) := Lib.hid (hinv.out.eq_part (p := p) hdl (by omega) ham hmb hlt2.out g2.out.1 (by rw [hX2.out]; exact g2.out.2))
                  have hk2 := Lib.hid (hk.out.trans g3.out)
                  clear hc g2 g3 hrow hinv hk hlt2
                  go_wp2_with fail
                  go_roundw
                  case rel => exact ⟨m, b, lim, _, _, l1, rfl, rfl, rfl, rfl, rfl, hlim, by omega, hmb, hbd, g1, hfin, hk2⟩
                  case measure => simp [intOf] <;> omega
            · clear hpa
              by_cases ha0 : a = 0
              · have hd : decide ((0 : Int) < (a : Int)) = false := by simp; omega
                have hdn : decide (0 < a) = false := by simp; omega
                clear ha0
                go_wp2_with fail
                go_quiet (fail)
                replace hrow := Lib.hid (hrow.out.drewN nq)
                replace hk := Lib.hid (hk.out.drewN nq)
                generalize wc.drewN nq = w4 at hrow hk ⊢
                clear hd hdn
                have hpt := partition_any g cap l rest a b p hap hpb (by omega) (by omega) w4 hrow.out
                rw [hll] at hpt
                replace hpt := Lib.hid hpt
                go_wp2_with fail
                refine hpt.out.mono ?_
                rintro e w5 ⟨m, x, l1, rfl, ham, hmb, g1, g2, g3⟩
                have hinv1 := Lib.hid (hinv.out.next hdl g2.out.1)
                have hpd := Lib.hid g2.out.2
                have hk1 := Lib.hid (hk.out.trans g3.out)
                have hl1 := hinv1.out.len
                have hlow1 := Lib.hid hinv1.out.low
                clear hpt hrow hinv hk g2 g3
                by_cases hlr : (m : Int) - (a : Int) < (b : Int) - (m : Int)
                · have hc := ih.out (m - a) (by omega) g cap l1 rest a m lim w5 rfl ham (by omega) (by omega) (hlow1.out.sub (by omega)) hlim g1.out
                  rw [hl1] at hc
                  replace hc := Lib.hid hc
                  go_wp2_with fail
                  refine hc.out.mono ?_
                  rintro e w6 ⟨rfl, l2, e1, e2, e3⟩
                  have hfin : Hid (Inv l0 l2 c d (m + 1) b) := Lib.hid ((hinv1.out.next hdl (e2.out.1.wide (Nat.le_refl _) (by omega))).left (hpd.out.turnL (by omega) e2.out.1) ham hmb e2.out.2)
                  have hk2 := Lib.hid (hk1.out.trans e3.out)
                  clear hc e2 e3 hpd hinv1 hlow1 hk1 g1
                  go_wp2_with fail
                  go_roundw
                  case rel => exact ⟨m + 1, b, lim, _, x, l2, by go_num, rfl, rfl, rfl, rfl, hlim, by omega, by omega, hbd, e1, hfin, hk2⟩
                  case measure => simp [intOf] <;> omega
                · have hlr' : (b : Int) - (m : Int) ≤ (m : Int) - (a : Int) := by omega
                  have hc := ih.out (b - (m + 1)) (by omega) g cap l1 rest (m + 1) b lim w5 rfl (by omega) (by omega) (by omega) hpd.out.low hlim g1.out
                  rw [hl1, show (((m + 1 : Nat)) : Int) = (m : Int) + 1 by omega] at hc
                  replace hc := Lib.hid hc
                  go_wp2_with fail
                  refine hc.out.mono ?_
                  rintro e w6 ⟨rfl, l2, e1, e2, e3⟩
                  have hfin : Hid (Inv l0 l2 c d a m) := Lib.hid ((hinv1.out.next hdl (e2.out.1.wide (by omega) (Nat.le_refl _))).right (hpd.out.turnR (by omega) e2.out.1) ham hmb e2.out.2)
                  have hk2 := Lib.hid (hk1.out.trans e3.out)
                  clear hc e2 e3 hpd hinv1 hlow1 hk1 g1
                  go_wp2_with fail
                  go_roundw
                  case rel => exact ⟨a, m, lim, _, x, l2, rfl, rfl, rfl, rfl, rfl, hlim, hca, by omega, by omega, e1, hfin, hk2⟩
                  case measure => simp [intOf] <;> omega
              · obtain ⟨a1, ha1⟩ : ∃ a1, a = a1 + 1 := ⟨a - 1, by omega⟩
                subst ha1
                have hd : decide ((0 : Int) < (a1 : Int) + 1) = true := decide_eq_true (by omega)
                have hb1 : (a1 : Int) < (l0.length : Int) := by omega
                have hb2 : (p : Int) < (l0.length : Int) := by omega
                have hb0 : (0 : Int) ≤ (a1 : Int) := by omega
                have ci := hrow.out.at a1 (by omega)
                have cj := hrow.out.at p (by omega)
                have hcmp := Lib.hid (fun n => hle.out (at_ l a1) (at_ l p) (wc.drewN n))
                by_cases hlt : at_ l a1 < at_ l p
                · rw [decide_eq_true hlt] at hcmp
                  clear hlt
                  generalize at_ l a1 = x1 at ci hcmp
                  generalize at_ l p = x2 at cj hcmp
                  go_wp2_with fail
                  go_quiet ((go_at_call 78; exact Calls.quiet_of_same (hcmp.out _)))
                  replace hrow := Lib.hid (hrow.out.drewN nq)
                  replace hk := Lib.hid (hk.out.drewN nq)
                  generalize wc.drewN nq = w4 at hrow hk ⊢
                  clear hcmp ci cj hd
                  have ea : (((a1 + 1 : Nat)) : Int) = (a1 : Int) + 1 := by omega
                  have hpt := partition_any g cap l rest (a1 + 1) b p hap hpb (by omega) (by omega) w4 hrow.out
                  rw [hll, ea] at hpt
                  replace hpt := Lib.hid hpt
                  go_wp2_with fail
                  refine hpt.out.mono ?_
                  rintro e w5 ⟨m, x, l1, rfl, ham, hmb, g1, g2, g3⟩
                  have hinv1 := Lib.hid (hinv.out.next hdl g2.out.1)
                  have hpd := Lib.hid g2.out.2
                  have hk1 := Lib.hid (hk.out.trans g3.out)
                  have hl1 := hinv1.out.len
                  have hlow1 := Lib.hid hinv1.out.low
                  clear hpt hrow hinv hk g2 g3
                  by_cases hlr : (m : Int) - ((a1 : Int) + 1) < (b : Int) - (m : Int)
                  · have hc := ih.out (m - (a1 + 1)) (by omega) g cap l1 rest (a1 + 1) m lim w5 rfl ham (by omega) (by omega) (hlow1.out.sub (by omega)) hlim g1.out
                    rw [hl1, ea] at hc
                    replace hc := Lib.hid hc
                    go_wp2_with fail
                    refine hc.out.mono ?_
                    rintro e w6 ⟨rfl, l2, e1, e2, e3⟩
                    have hfin : Hid (Inv l0 l2 c d (m + 1) b) := Lib.hid ((hinv1.out.next hdl (e2.out.1.wide (Nat.le_refl _) (by omega))).left (hpd.out.turnL (by omega) e2.out.1) ham hmb e2.out.2)
                    have hk2 := Lib.hid (hk1.out.trans e3.out)
                    clear hc e2 e3 hpd hinv1 hlow1 hk1 g1
                    go_wp2_with fail
                    go_roundw
                    case rel => exact ⟨m + 1, b, lim, _, x, l2, by go_num, rfl, rfl, rfl, rfl, hlim, by omega, by omega, hbd, e1, hfin, hk2⟩
                    case measure => simp [intOf] <;> omega
                  · have hlr' : (b : Int) - (m : Int) ≤ (m : Int) - ((a1 : Int) + 1) := by omega
                    have hc := ih.out (b - (m + 1)) (by omega) g cap l1 rest (m + 1) b lim w5 rfl (by omega) (by omega) (by omega) hpd.out.low hlim g1.out
                    rw [hl1, show (((m + 1 : Nat)) : Int) = (m : Int) + 1 by omega] at hc
                    replace hc := Lib.hid hc
                    go_wp2_with fail
                    refine hc.out.mono ?_
                    rintro e w6 ⟨rfl, l2, e1, e2, e3⟩
                    have hfin : Hid (Inv l0 l2 c d (a1 + 1) m) := Lib.hid ((hinv1.out.next hdl (e2.out.1.wide (by omega) (Nat.le_refl _))).right (hpd.out.turnR (by omega) e2.out.1) ham hmb e2.out.2)
                    have hk2 := Lib.hid (hk1.out.trans e3.out)
                    clear hc e2 e3 hpd hinv1 hlow1 hk1 g1
                    go_wp2_with fail
                    go_roundw
                    case rel => exact ⟨a1 + 1, m, lim, _, x, l2, by go_num, rfl, rfl, rfl, rfl, hlim, hca, by omega, by omega, e1, hfin, hk2⟩
                    case measure => simp [intOf] <;> omega
                · have hlt2 := Lib.hid hlt
                  have hpe := fun W h => partEq_any g cap l rest (a1 + 1) b p hap hpb (by omega) (by omega) W h
                  rw [hll, show (((a1 + 1 : Nat)) : Int) = (a1 : Int) + 1 by omega] at hpe
                  replace hpe := Lib.hid hpe
                  rw [decide_eq_false hlt] at hcmp
                  clear hlt
                  obtain ⟨X2, hX2⟩ : ∃ X2, at_ l p = X2 := ⟨_, rfl⟩
                  obtain ⟨X1, hX1⟩ : ∃ X1, at_ l a1 = X1 := ⟨_, rfl⟩
                  rw [hX1] at ci hcmp
                  rw [hX2] at cj hcmp hpe
                  replace hX1 := Lib.hid hX1
                  replace hX2 := Lib.hid hX2
                  go_wp2_with fail
                  go_quiet ((go_at_call 78; exact Calls.quiet_of_same (hcmp.out _)))
                  replace hrow := Lib.hid (hrow.out.drewN nq)
                  replace hk := Lib.hid (hk.out.drewN nq)
                  generalize wc.drewN nq = w4 at hrow hk ⊢
                  have hc := Lib.hid (hpe.out w4 hrow.out)
                  clear hcmp ci cj hd hpe
                  go_wp2_with fail
                  refine hc.out.mono ?_
                  rintro e w5 ⟨m, l1, rfl, ham, hmb, g1, g2, g3⟩
                  have hfin : Hid (Inv l0 l1 c d m b) := Lib.hid (hinv.out.eq_part (p := p) hdl (by omega) ham hmb hlt2.out g2.out.1 (by rw [hX2.out]; exact g2.out.2))
                  have hk2 := Lib.hid (hk.out.trans g3.out)
                  clear hc g2 g3 hrow hinv hk hlt2
                  go_wp2_with fail
                  go_roundw
                  case rel => exact ⟨m, b, lim, _, _, l1, rfl, rfl, rfl, rfl, rfl, hlim, by omega, hmb, hbd, g1, hfin, hk2⟩
                  case measure => simp [intOf] <;> omega
            · clear hpa
              by_cases ha0 : a = 0
              · have hd : decide ((0 : Int) < (a : Int)) = false := by simp; omega
                have hdn : decide (0 < a) = false := by simp; omega
                clear ha0
                go_wp2_with fail
                go_quiet (fail)
                replace hrow := Lib.hid (hrow.out.drewN nq)
                replace hk := Lib.hid (hk.out.drewN nq)
                generalize wc.drewN nq = w4 at hrow hk ⊢
                clear hd hdn
                have hpt := partition_any g cap l rest a b p hap hpb (by omega) (by omega) w4 hrow.out
                rw [hll] at hpt
                replace hpt := Lib.hid hpt
                go_wp2_with fail
                refine hpt.out.mono ?_
                rintro e w5 ⟨m, x, l1, rfl, ham, hmb, g1, g2, g3⟩
                have hinv1 := Lib.hid (hinv.out.next hdl g2.out.1)
                have hpd := Lib.hid g2.out.2
                have hk1 := Lib.hid (hk.out.trans g3.out)
                have hl1 := hinv1.out.len
                have hlow1 := Lib.hid hinv1.out.low
                clear hpt hrow hinv hk g2 g3
                by_cases hlr : (m : Int) - (a : Int) < (b : Int) - (m : Int)
                · have hc := ih.out (m - a) (by omega) g cap l1 rest a m lim w5 rfl ham (by omega) (by omega) (hlow1.out.sub (by omega)) hlim g1.out
                  rw [hl1] at hc
                  replace hc := Lib.hid hc
                  go_wp2_with fail
                  refine hc.out.mono ?_
                  rintro e w6 ⟨rfl, l2, e1, e2, e3⟩
                  have hfin : Hid (Inv l0 l2 c d (m + 1) b) := Lib.hid ((hinv1.out.next hdl (e2.out.1.wide (Nat.le_refl _) (by omega))).left (hpd.out.turnL (by omega) e2.out.1) ham hmb e2.out.2)
                  have hk2 := Lib.hid (hk1.out.trans e3.out)
                  clear hc e2 e3 hpd hinv1 hlow1 hk1 g1
                  go_wp2_with fail
                  go_roundw
                  case rel => exact ⟨m + 1, b, lim, _, x, l2, by go_num, rfl, rfl, rfl, rfl, hlim, by omega, by omega, hbd, e1, hfin, hk2⟩
                  case measure => simp [intOf] <;> omega
                · have hlr' : (b : Int) - (m : Int) ≤ (m : Int) - (a : Int) := by omega
                  have hc := ih.out (b - (m + 1)) (by omega) g cap l1 rest (m + 1) b lim w5 rfl (by omega) (by omega) (by omega) hpd.out.low hlim g1.out
                  rw [hl1, show (((m + 1 : Nat)) : Int) = (m : Int) + 1 by omega] at hc
                  replace hc := Lib.hid hc
                  go_wp2_with fail
                  refine hc.out.mono ?_
                  rintro e w6 ⟨rfl, l2, e1, e2, e3⟩
                  have hfin : Hid (Inv l0 l2 c d a m) := Lib.hid ((hinv1.out.next hdl (e2.out.1.wide (by omega) (Nat.le_refl _))).right (hpd.out.turnR (by omega) e2.out.1) ham hmb e2.out.2)
                  have hk2 := Lib.hid (hk1.out.trans e3.out)
                  clear hc e2 e3 hpd hinv1 hlow1 hk1 g1
                  go_wp2_with fail
                  go_roundw
                  case rel => exact ⟨a, m, lim, _, x, l2, rfl, rfl, rfl, rfl, rfl, hlim, hca, by omega, by omega, e1, hfin, hk2⟩
                  case measure => simp [intOf] <;> omega
              · obtain ⟨a1, ha1⟩ : ∃ a1, a = a1 + 1 := ⟨a - 1, by omega⟩
                subst ha1
                have hd : decide ((0 : Int) < (a1 : Int) + 1) = true := decide_eq_true (by omega)
                have hb1 : (a1 : Int) < (l0.length : Int) := by omega
                have hb2 : (p : Int) < (l0.length : Int) := by omega
                have hb0 : (0 : Int) ≤ (a1 : Int) := by omega
                have ci := hrow.out.at a1 (by omega)
                have cj := hrow.out.at p (by omega)
                have hcmp := Lib.hid (fun n => hle.out (at_ l a1) (at_ l p) (wc.drewN n))
                by_cases hlt : at_ l a1 < at_ l p
                · rw [decide_eq_true hlt] at hcmp
                  clear hlt
                  generalize at_ l a1 = x1 at ci hcmp
                  generalize at_ l p = x2 at cj hcmp
                  go_wp2_with fail
                  go_quiet ((go_at_call 78; exact Calls.quiet_of_same (hcmp.out _)))
                  replace hrow := Lib.hid (hrow.out.drewN nq)
                  replace hk := Lib.hid (hk.out.drewN nq)
                  generalize wc.drewN nq = w4 at hrow hk ⊢
                  clear hcmp ci cj hd
                  have ea : (((a1 + 1 : Nat)) : Int) = (a1 : Int) + 1 := by omega
                  have hpt := partition_any g cap l rest (a1 + 1) b p hap hpb (by omega) (by omega) w4 hrow.out
                  rw [hll, ea] at hpt
                  replace hpt := Lib.hid hpt
                  go_wp2_with fail
                  refine hpt.out.mono ?_
                  rintro e w5 ⟨m, x, l1, rfl, ham, hmb, g1, g2, g3⟩
                  have hinv1 := Lib.hid (hinv.out.next hdl g2.out.1)
                  have hpd := Lib.hid g2.out.2
                  have hk1 := Lib.hid (hk.out.trans g3.out)
                  have hl1 := hinv1.out.len
                  have hlow1 := Lib.hid hinv1.out.low
                  clear hpt hrow hinv hk g2 g3
                  by_cases hlr : (m : Int) - ((a1 : Int) + 1) < (b : Int) - (m : Int)
                  · have hc := ih.out (m - (a1 + 1)) (by omega) g cap l1 rest (a1 + 1) m lim w5 rfl ham (by omega) (by omega) (hlow1.out.sub (by omega)) hlim g1.out
                    rw [hl1, ea] at hc
                    replace hc := Lib.hid hc
                    go_wp2_with fail
                    refine hc.out.mono ?_
                    rintro e w6 ⟨rfl, l2, e1, e2, e3⟩
                    have hfin : Hid (Inv l0 l2 c d (m + 1) b) := Lib.hid ((hinv1.out.next hdl (e2.out.1.wide (Nat.le_refl _) (by omega))).left (hpd.out.turnL (by omega) e2.out.1) ham hmb e2.out.2)
                    have hk2 := Lib.hid (hk1.out.trans e3.out)
                    clear hc e2 e3 hpd hinv1 hlow1 hk1 g1
                    go_wp2_with fail
                    go_roundw
                    case rel => exact ⟨m + 1, b, lim, _, x, l2, by go_num, rfl, rfl, rfl, rfl, hlim, by omega, by omega, hbd, e1, hfin, hk2⟩
                    case measure => simp [intOf] <;> omega
                  · have hlr' : (b : Int) - (m : Int) ≤ (m : Int) - ((a1 : Int) + 1) := by omega
                    have hc := ih.out (b - (m + 1)) (by omega) g cap l1 rest (m + 1) b lim w5 rfl (by omega) (by omega) (by omega) hpd.out.low hlim g1.out
                    rw [hl1, show (((m + 1 : Nat)) : Int) = (m : Int) + 1 by omega] at hc
                    replace hc := Lib.hid hc
                    go_wp2_with fail
                    refine hc.out.mono ?_
                    rintro e w6 ⟨rfl, l2, e1, e2, e3⟩
                    have hfin : Hid (Inv l0 l2 c d (a1 + 1) m) := Lib.hid ((hinv1.out.next hdl (e2.out.1.wide (by omega) (Nat.le_refl _))).right (hpd.out.turnR (by omega) e2.out.1) ham hmb e2.out.2)
                    have hk2 := Lib.hid (hk1.out.trans e3.out)
                    clear hc e2 e3 hpd hinv1 hlow1 hk1 g1
                    go_wp2_with fail
                    go_roundw
                    case rel => exact ⟨a1 + 1, m, lim, _, x, l2, by go_num, rfl, rfl, rfl, rfl, hlim, hca, by omega, by omega, e1, hfin, hk2⟩
                    case measure => simp [intOf] <;> omega
                · have hlt2 := Lib.hid hlt
                  have hpe := fun W h => partEq_any g cap l rest (a1 + 1) b p hap hpb (by omega) (by omega) W h
                  rw [hll, show (((a1 + 1 : Nat)) : Int) = (a1 : Int) + 1 by omega] at hpe
                  replace hpe := Lib.hid hpe
                  rw [decide_eq_false hlt] at hcmp
                  clear hlt
                  obtain ⟨X2, hX2⟩ : ∃ X2, at_ l p = X2 := ⟨_, rfl⟩
                  obtain ⟨X1, hX1⟩ : ∃ X1, at_ l a1 = X1 := ⟨_, rfl⟩
                  rw [hX1] at ci hcmp
                  rw [hX2] at cj hcmp hpe
                  replace hX1 := Lib.hid hX1
                  replace hX2 := Lib.hid hX2
                  go_wp2_with fail
                  go_quiet ((go_at_call 78; exact Calls.quiet_of_same (hcmp.out _)))
                  replace hrow := Lib.hid (hrow.out.drewN nq)
                  replace hk := Lib.hid (hk.out.drewN nq)
                  generalize wc.drewN nq = w4 at hrow hk ⊢
                  have hc := Lib.hid (hpe.out w4 hrow.out)
                  clear hcmp ci cj hd hpe
                  go_wp2_with fail
                  refine hc.out.mono ?_
                  rintro e w5 ⟨m, l1, rfl, ham, hmb, g1, g2, g3⟩
                  have hfin : Hid (Inv l0 l1 c d m b) := Lib.hid (hinv.out.eq_part (p := p) hdl (by omega) ham hmb hlt2.out g2.out.1 (by rw [hX2.out]; exact g2.out.2))
                  have hk2 := Lib.hid (hk.out.trans g3.out)
                  clear hc g2 g3 hrow hinv hk hlt2
                  go_wp2_with fail
                  go_roundw
                  case rel => exact ⟨m, b, lim, _, _, l1, rfl, rfl, rfl, rfl, rfl, hlim, by omega, hmb, hbd, g1, hfin, hk2⟩
                  case measure => simp [intOf] <;> omega
            · go_wp2_with fail
              refine hpa.out.mono ?_
              rintro e w3 ⟨x, l1, rfl, g1, g2, g3⟩
              cases x
              · replace hinv := Lib.hid (hinv.out.next hdl g2.out.1)
                replace hk := Lib.hid (hk.out.trans g3.out)
                replace hrow := g1
                obtain ⟨l, rfl⟩ : ∃ l, l = l1 := ⟨_, rfl⟩
                have hll := hinv.out.len
                clear hpa g1 g2 g3
                by_cases ha0 : a = 0
                · have hd : decide ((0 : Int) < (a : Int)) = false := by simp; omega
                  have hdn : decide (0 < a) = false := by simp; omega
                  clear ha0
                  go_wp2_with fail
                  go_quiet (fail)
                  replace hrow := Lib.hid (hrow.out.drewN nq)
                  replace hk := Lib.hid (hk.out.drewN nq)
                  generalize w3.drewN nq = w4 at hrow hk ⊢
                  clear hd hdn
                  have hpt := partition_any g cap l rest a b p hap hpb (by omega) (by omega) w4 hrow.out
                  rw [hll] at hpt
                  replace hpt := Lib.hid hpt
                  go_wp2_with fail
                  refine hpt.out.mono ?_
                  rintro e w5 ⟨m, x, l1, rfl, ham, hmb, g1, g2, g3⟩
                  have hinv1 := Lib.hid (hinv.out.next hdl g2.out.1)
                  have hpd := Lib.hid g2.out.2
                  have hk1 := Lib.hid (hk.out.trans g3.out)
                  have hl1 := hinv1.out.len
                  have hlow1 := Lib.hid hinv1.out.low
                  clear hpt hrow hinv hk g2 g3
                  by_cases hlr : (m : Int) - (a : Int) < (b : Int) - (m : Int)
                  · have hc := ih.out (m - a) (by omega) g cap l1 rest a m lim w5 rfl ham (by omega) (by omega) (hlow1.out.sub (by omega)) hlim g1.out
                    rw [hl1] at hc
                    replace hc := Lib.hid hc
                    go_wp2_with fail
                    refine hc.out.mono ?_
                    rintro e w6 ⟨rfl, l2, e1, e2, e3⟩
                    have hfin : Hid (Inv l0 l2 c d (m + 1) b) := Lib.hid ((hinv1.out.next hdl (e2.out.1.wide (Nat.le_refl _) (by omega))).left (hpd.out.turnL (by omega) e2.out.1) ham hmb e2.out.2)
                    have hk2 := Lib.hid (hk1.out.trans e3.out)
                    clear hc e2 e3 hpd hinv1 hlow1 hk1 g1
                    go_wp2_with fail
                    go_roundw
                    case rel => exact ⟨m + 1, b, lim, _, x, l2, by go_num, rfl, rfl, rfl, rfl, hlim, by omega, by omega, hbd, e1, hfin, hk2⟩
                    case measure => simp [intOf] <;> omega
                  · have hlr' : (b : Int) - (m : Int) ≤ (m : Int) - (a : Int) := by omega
                    have hc := ih.out (b - (m + 1)) (by omega) g cap l1 rest (m + 1) b lim w5 rfl (by omega) (by omega) (by omega) hpd.out.low hlim g1.out
                    rw [hl1, show (((m + 1 : Nat)) : Int) = (m : Int) + 1 by omega] at hc
                    replace hc := Lib.hid hc
                    go_wp2_with fail
                    refine hc.out.mono ?_
                    rintro e w6 ⟨rfl, l2, e1, e2, e3⟩
                    have hfin : Hid (Inv l0 l2 c d a m) := Lib.hid ((hinv1.out.next hdl (e2.out.1.wide (by omega) (Nat.le_refl _))).right (hpd.out.turnR (by omega) e2.out.1) ham hmb e2.out.2)
                    have hk2 := Lib.hid (hk1.out.trans e3.out)
                    clear hc e2 e3 hpd hinv1 hlow1 hk1 g1
                    go_wp2_with fail
                    go_roundw
                    case rel => exact ⟨a, m, lim, _, x, l2, rfl, rfl, rfl, rfl, rfl, hlim, hca, by omega, by omega, e1, hfin, hk2⟩
                    case measure => simp [intOf] <;> omega
                · obtain ⟨a1, ha1⟩ : ∃ a1, a = a1 + 1 := ⟨a - 1, by omega⟩
                  subst ha1
                  have hd : decide ((0 : Int) < (a1 : Int) + 1) = true := decide_eq_true (by omega)
                  have hb1 : (a1 : Int) < (l0.length : Int) := by omega
                  have hb2 : (p : Int) < (l0.length : Int) := by omega
                  have hb0 : (0 : Int) ≤ (a1 : Int) := by omega
                  have ci := hrow.out.at a1 (by omega)
                  have cj := hrow.out.at p (by omega)
                  have hcmp := Lib.hid (fun n => hle.out (at_ l a1) (at_ l p) (w3.drewN n))
                  by_cases hlt : at_ l a1 < at_ l p
                  · rw [decide_eq_true hlt] at hcmp
                    clear hlt
                    generalize at_ l a1 = x1 at ci hcmp
                    generalize at_ l p = x2 at cj hcmp
                    go_wp2_with fail
                    go_quiet ((go_at_call 78; exact Calls.quiet_of_same (hcmp.out _)))
                    replace hrow := Lib.hid (hrow.out.drewN nq)
                    replace hk := Lib.hid (hk.out.drewN nq)
                    generalize w3.drewN nq = w4 at hrow hk ⊢
                    clear hcmp ci cj hd
                    have ea : (((a1 + 1 : Nat)) : Int) = (a1 : Int) + 1 := by omega
                    have hpt := partition_any g cap l rest (a1 + 1) b p hap hpb (by omega) (by omega) w4 hrow.out
                    rw [hll, ea] at hpt
                    replace hpt := Lib.hid hpt
                    go_wp2_with fail
                    refine hpt.out.mono ?_
                    rintro e w5 ⟨m, x, l1, rfl, ham, hmb, g1, g2, g3⟩
                    have hinv1 := Lib.hid (hinv.out.next hdl g2.out.1)
                    have hpd := Lib.hid g2.out.2
                    have hk1 := Lib.hid (hk.out.trans g3.out)
                    have hl1 := hinv1.out.len
                    have hlow1 := Lib.hid hinv1.out.low
                    clear hpt hrow hinv hk g2 g3
                    by_cases hlr : (m : Int) - ((a1 : Int) + 1) < (b : Int) - (m : Int)
                    · have hc := ih.out (m - (a1 + 1)) (by omega) g cap l1 rest (a1 + 1) m lim w5 rfl ham (by omega) (by omega) (hlow1.out.sub (by omega)) hlim g1.out
                      rw [hl1, ea] at hc
                      replace hc := Lib.hid hc
                      go_wp2_with fail
                      refine hc.out.mono ?_
                      rintro e w6 ⟨rfl, l2, e1, e2, e3⟩
                      have hfin : Hid (Inv l0 l2 c d (m + 1) b) := Lib.hid ((hinv1.out.next hdl (e2.out.1.wide (Nat.le_refl _) (by omega))).left (hpd.out.turnL (by omega) e2.out.1) ham hmb e2.out.2)
                      have hk2 := Lib.hid (hk1.out.trans e3.out)
                      clear hc e2 e3 hpd hinv1 hlow1 hk1 g1
                      go_wp2_with fail
                      go_roundw
                      case rel => exact ⟨m + 1, b, lim, _, x, l2, by go_num, rfl, rfl, rfl, rfl, hlim, by omega, by omega, hbd, e1, hfin, hk2⟩
                      case measure => simp [intOf] <;> omega
                    · have hlr' : (b : Int) - (m : Int) ≤ (m : Int) - ((a1 : Int) + 1) := by omega
                      have hc := ih.out (b - (m + 1)) (by omega) g cap l1 rest (m + 1) b lim w5 rfl (by omega) (by omega) (by omega) hpd.out.low hlim g1.out
                      rw [hl1, show (((m + 1 : Nat)) : Int) = (m : Int) + 1 by omega] at hc
                      replace hc := Lib.hid hc
                      go_wp2_with fail
                      refine hc.out.mono ?_
                      rintro e w6 ⟨rfl, l2, e1, e2, e3⟩
                      have hfin : Hid (Inv l0 l2 c d (a1 + 1) m) := Lib.hid ((hinv1.out.next hdl (e2.out.1.wide (by omega) (Nat.le_refl _))).right (hpd.out.turnR (by omega) e2.out.1) ham hmb e2.out.2)
                      have hk2 := Lib.hid (hk1.out.trans e3.out)
                      clear hc e2 e3 hpd hinv1 hlow1 hk1 g1
                      go_wp2_with fail
                      go_roundw
                      case rel => exact ⟨a1 + 1, m, lim, _, x, l2, by go_num, rfl, rfl, rfl, rfl, hlim, hca, by omega, by omega, e1, hfin, hk2⟩
                      case measure => simp [intOf] <;> omega
                  · have hlt2 := Lib.hid hlt
                    have hpe := fun W h => partEq_any g cap l rest (a1 + 1) b p hap hpb (by omega) (by omega) W h
                    rw [hll, show (((a1 + 1 : Nat)) : Int) = (a1 : Int) + 1 by omega] at hpe
                    replace hpe := Lib.hid hpe
                    rw [decide_eq_false hlt] at hcmp
                    clear hlt
                    obtain ⟨X2, hX2⟩ : ∃ X2, at_ l p = X2 := ⟨_, rfl⟩
                    obtain ⟨X1, hX1⟩ : ∃ X1, at_ l a1 = X1 := ⟨_, rfl⟩
                    rw [hX1] at ci hcmp
                    rw [hX2] at cj hcmp hpe
                    replace hX1 := Lib.hid hX1
                    replace hX2 := Lib.hid hX2
                    go_wp2_with fail
                    go_quiet ((go_at_call 78; exact Calls.quiet_of_same (hcmp.out _)))
                    replace hrow := Lib.hid (hrow.out.drewN nq)
                    replace hk := Lib.hid (hk.out.drewN nq)
                    generalize w3.drewN nq = w4 at hrow hk ⊢
                    have hc := Lib.hid (hpe.out w4 hrow.out)
                    clear hcmp ci cj hd hpe
                    go_wp2_with fail
                    refine hc.out.mono ?_
                    rintro e w5 ⟨m, l1, rfl, ham, hmb, g1, g2, g3⟩
                    have hfin : Hid (Inv l0 l1 c d m b) := Lib.hid (hinv.out.eq_part (p := p) hdl (by omega) ham hmb hlt2.out g2.out.1 (by rw [hX2.out]; exact g2.out.2))
                    have hk2 := Lib.hid (hk.out.trans g3.out)
                    clear hc g2 g3 hrow hinv hk hlt2
                    go_wp2_with fail
                    go_roundw
                    case rel => exact ⟨m, b, lim, _, _, l1, rfl, rfl, rfl, rfl, rfl, hlim, by omega, hmb, hbd, g1, hfin, hk2⟩
                    case measure => simp [intOf] <;> omega
              · have hh := Lib.hid ((hinv.out.next hdl g2.out.1).sorted (g2.out.2 rfl))
                have hk2 := Lib.hid (hk.out.trans g3.out)
                clear hpa g2 g3
                go_wp2_with fail
                (try simp only [Exit.inBlock, Exit.then])
                refine bodyPost_ret (results_none rfl _ _ _) rfl ?_
                exact ⟨rfl, l1, g1, hh, hk2⟩
theorem pdq_all (N : Nat) : PdqOk N := Nat.strongRecOn N (fun n ih => pdq_step n ih)
end Go.Proofs.Ytcnebfmlelcliaa
