/- SeqsetFew: walked. -/
import Derived.Test.YtifpmcfadmmkiaaDoorPdI
import Derived.Test.YtifpmcfadmmkiaaDoorPdJ
import Derived.Test.YtifpmcfadmmkiaaDoorSqP
import Derived.Test.YtifpmcfadmmkiaaDoorSqZ
namespace Go.Proofs.YtifpmcfadmmkiaaDoor
open Go.RowKit Go.ChangeShapes Go.WideShapes Go.ChangeAt

/-- does a number stand in the first k of a list -/
def standsB (of : List Nat) (k x : Nat) : Bool := decide (x ∈ of.take k ∧ 0 < x)
theorem standsB_step {of : List Nat} {k x : Nat} (h : k < of.length) : standsB of (k + 1) x = (standsB of k x || (of[k] == x && decide (0 < of[k]))) := by
  unfold standsB
  rw [List.take_succ_eq_append_getElem h, Bool.eq_iff_iff]
  simp only [List.mem_append, List.mem_singleton, decide_eq_true_eq, Bool.or_eq_true, Bool.and_eq_true, beq_iff_eq]
  constructor
  · rintro ⟨h1 | h1, h2⟩
    · exact .inl ⟨h1, h2⟩
    · exact .inr ⟨h1.symm, by rw [← h1]; exact h2⟩
  · rintro (⟨h1, h2⟩ | ⟨h1, h2⟩)
    · exact ⟨.inl h1, h2⟩
    · exact ⟨.inr h1.symm, by rw [← h1]; exact h2⟩
theorem nodup_len : ∀ (ts of : List Nat), ts.Nodup → (∀ x ∈ ts, x ∈ of) → ts.length ≤ of.length
  | [], of, _, _ => Nat.zero_le _
  | t :: ts, of, hn, h => by
    have ht : t ∈ of := h t (by simp)
    have h2 := nodup_len ts (of.erase t) (List.nodup_cons.1 hn).2 (fun x hx => by
      have hne : x ≠ t := fun e => (List.nodup_cons.1 hn).1 (by rw [← e]; exact hx)
      exact (List.mem_erase_of_ne hne).2 (h x (by simp [hx])))
    rw [List.length_erase_of_mem ht] at h2
    have := List.length_pos_of_mem ht
    rw [List.length_cons]; omega
theorem rd_at {w : World} {v : Value} {l : List Nat} (h : Rd w v l.length (l.map encU)) {k : Nat} (hk : k < l.length) : ∃ b o cap, v = .slice (some ⟨b, o, none⟩) l.length cap ∧ b < w.heap.size ∧ w.cell? ⟨b, o + k, none⟩ = some (.int .u64 (l[k] : Nat)) := by
  obtain ⟨ao, cap, rfl, h0 | ⟨b, o, rfl, hb, _, hc⟩⟩ := h
  · omega
  · exact ⟨b, o, cap, rfl, hb, num_cell hc hk⟩
theorem rg_at {w : World} {v : Value} {l : List Rng} {B : Nat} (h : RangesIn w B v l) {k : Nat} (hk : k < l.length) : ∃ b o cap, v = .slice (some ⟨b, o, none⟩) l.length cap ∧ b < B ∧ ∀ j (hj : j < l.length), w.cell? ⟨b, o + j * 2, none⟩ = some (.int .u64 l[j].1) ∧ w.cell? ⟨b, o + j * 2 + 1, none⟩ = some (.int .u64 l[j].2) := by
  obtain ⟨ao, cap, rfl, h0 | ⟨b, o, rfl, hb, _, hc⟩⟩ := h
  · rw [h0] at hk; simp at hk
  · exact ⟨b, o, cap, rfl, hb, hc⟩
theorem NInv.top {ts : List Nat} {rs : List Rng} (h : NInv ts rs) (hu : ∀ t ∈ ts, t < 18446744073709551616) {i : Nat} (hi : i < rs.length) : rs[i].1 < 18446744073709551616 ∧ rs[i].2 < 18446744073709551616 := by
  have h1 := h.one _ (List.getElem_mem hi)
  have h2 := hu _ ((h.mem rs[i].2).1 ⟨_, List.getElem_mem hi, h1.2, Nat.le_refl _⟩)
  omega
set_option maxRecDepth 100000 in
set_option maxHeartbeats 8000000 in
theorem few_any (hal : AliveOk) (of : List Nat) (v : Value) (n : Nat) (_ : n < 18446744073709551616) (W : World) (hr : Rd W v of.length (of.map encU)) (hu : ∀ x ∈ of, x < 18446744073709551616) (hol : of.length * 8 ≤ 140737488355328) (hg : Gr W) :
    Calls Tryd.prog 6 #[v, .int .u64 n] W fun e w' => e = .returned (.bool true) ∧ Below W.heap.size W w' := by
  obtain ⟨ao, cap, hv⟩ : ∃ ao cap, v = .slice ao of.length cap := by obtain ⟨ao, cap, hv, _⟩ := hr; exact ⟨ao, cap, hv⟩
  subst hv
  have ha1 := Lib.hid (hal W hg)
  replace hal := Lib.hid hal
  unfold AliveOk at hal
  by_cases h300 : 300 < of.length
  · have hd : decide ((300 : Int) < (of.length : Int)) = true := by simp; omega
    have hd2 : (300 : Int) < (of.length : Int) := by omega
    go_enter Tryd.func6, Tryd.ntmps6
    go_wp2_with fail
    refine ha1.out.mono ?_
    rintro e w1 ⟨rfl, hb⟩
    have hc := Lib.hid (hal.out w1 (hg.later hb))
    replace hb := Lib.hid hb
    clear ha1 hg
    go_wp2_with fail
    refine hc.out.mono ?_
    rintro e w2 ⟨rfl, hb2⟩
    have hB := Lib.hid (hb.out.trans (hb2.mono hb.out.size))
    clear hc hb2
    go_wp2_with fail
    go_ret
    exact ⟨rfl, hB.out⟩
  · have hd2 : (of.length : Int) ≤ 300 := by omega
    replace hr := Lib.hid hr
    replace hu := Lib.hid hu
    replace hg := Lib.hid hg
    go_enter Tryd.func6, Tryd.ntmps6
    go_wp2_with fail
    refine ha1.out.mono ?_
    rintro e w1 ⟨rfl, hb1⟩
    have hc := Lib.hid (norm_any sort_all of _ w1 (hr.out.below hb1) (by omega) (by omega) hu.out)
    replace hb1 := Lib.hid hb1
    clear ha1
    go_wp2_with fail
    refine hc.out.mono ?_
    rintro e w2 ⟨vn, ts, rfl, hri, hown, hb2⟩
    have hin := Lib.hid hri.out.ninv
    have hts := Lib.hid (fun x => hri.out.2 x)
    have hut := Lib.hid (fun t (ht : t ∈ ts) => hu.out t ((hri.out.2 t).1 ht).2)
    obtain ⟨rs, hrs⟩ : ∃ rs, normF ts = rs := ⟨_, rfl⟩
    rw [hrs] at hown hin
    have hB2 := Lib.hid (hb1.out.trans (hb2.out.mono hb1.out.size))
    have hrg := Lib.hid hown.out.ranges
    obtain ⟨an, cn, rfl⟩ := hown.out.len
    have hrl : rs.length ≤ 1000000 := by
      rw [← hrs]
      have := normF_len ts []
      have h2 : ts.length ≤ of.length := by
        exact nodup_len ts of hri.out.1.1 (fun x hx => ((hri.out.2 x).1 hx).2)
      simp only [List.length_nil, Nat.zero_add] at this
      show (ts.foldl normStep []).length ≤ _
      omega
    clear hc hri hown hb2 hb1 hrs
    go_wp2_with fail
    go_loopw [6] (fun v6 wr => ∃ i : Nat, v6 = .int .i64 i ∧ i ≤ rs.length ∧ Hid (Below w2.heap.size w2 wr)) (fun v6 _ => rs.length - (intOf v6).toNat)
    case atStart => exact ⟨0, rfl, Nat.zero_le _, Lib.hid (Below.refl _ _)⟩
    case round =>
      obtain ⟨i, rfl, hi, hb⟩ := hrel
      by_cases hlt : i < rs.length
      · have hl1 : (i : Int) < (rs.length : Int) := by omega
        obtain ⟨b, o, cn', hvn, hbl, hcell⟩ := rg_at (hrg.out.later hb.out) hlt
        injection hvn with q1 q2 q3
        subst q1 q3
        obtain ⟨c0, c1⟩ := hcell i hlt
        have h1 := hin.out.one _ (List.getElem_mem hlt)
        have htop := hin.out.top hut.out hlt
        rcases Nat.eq_zero_or_pos i with h0 | h0
        · subst h0
          clear hcell
          generalize rs[0] = r at c0 c1 h1 htop
          simp only [Nat.zero_mul, Nat.add_zero] at c0 c1
          obtain ⟨rf, rt⟩ := r
          dsimp only at c0 c1 h1 htop
          have d1 : decide ((rf : Int) < 1) = false := by simp; omega
          have d2 : decide ((rt : Int) < (rf : Int)) = false := decide_eq_false (by omega)
          have d2' : decide (rt < rf) = false := decide_eq_false (by omega)
          clear h1 htop
          go_wp2_with fail
          go_quiet (fail)
          have hb3 := Lib.hid (below_drewN hb.out nq)
          generalize wr.drewN nq = w3 at hb3 ⊢
          clear c0 c1 d1 d2 d2' hb
          go_wp2_with fail
          go_roundw
          case rel => exact ⟨0 + 1, by go_num, by omega, hb3⟩
          case measure => simp [intOf] <;> omega
        · obtain ⟨k, rfl⟩ : ∃ k, i = k + 1 := ⟨i - 1, by omega⟩
          obtain ⟨e0, e1⟩ := hcell k (by omega)
          have hgap := List.pairwise_iff_getElem.1 hin.out.gap k (k + 1) (by omega) hlt (by omega)
          clear hcell
          generalize rs[k + 1] = r at c0 c1 h1 htop hgap
          generalize rs[k] = p at e0 e1 hgap
          obtain ⟨rf, rt⟩ := r
          obtain ⟨pf, pt⟩ := p
          dsimp only at c0 c1 h1 htop e0 e1 hgap
          have d1 : decide ((rf : Int) < 1) = false := by simp; omega
          have d2 : decide ((rt : Int) < (rf : Int)) = false := decide_eq_false (by omega)
          have d2' : decide (rt < rf) = false := decide_eq_false (by omega)
          have d3 : decide ((0 : Int) < (k : Int) + 1) = true := decide_eq_true (by omega)
          have d4 : decide ((rf : Int) ≤ (pt : Int)) = false := decide_eq_false (by omega)
          have d4' : decide (rf ≤ pt) = false := decide_eq_false (by omega)
          have hw : IntKind.u64.wrap ((rf : Int) - (pt : Int)) = (rf : Int) - (pt : Int) := by rw [IntKind.wrap_u64]; omega
          have d5 : decide ((rf : Int) - (pt : Int) < 2) = false := decide_eq_false (by omega)
          have hk3 : (0 : Int) ≤ (k : Int) + 1 := by omega
          have hk1 : (k : Int) < (rs.length : Int) := by omega
          have hk2 : (k : Int) + 1 < (rs.length : Int) := by omega
          have hk0 : (0 : Int) ≤ (k : Int) := by omega
          clear h1 htop hgap
          go_wp2_with fail
          go_quiet (fail)
          have hb3 := Lib.hid (below_drewN hb.out nq)
          generalize wr.drewN nq = w3 at hb3 ⊢
          clear c0 c1 d1 d2 d2' d3 d4 d4' d5 hw hb e0 e1
          go_wp2_with fail
          go_roundw
          case rel => exact ⟨k + 1 + 1, by go_num, by omega, hb3⟩
          case measure => simp [intOf] <;> omega
      · have hl1 : (rs.length : Int) ≤ (i : Int) := by omega
        have hB3 := Lib.hid (hB2.out.trans (hb.out.mono hB2.out.size))
        have hrg3 := Lib.hid (hrg.out.on hb.out)
        have hrd3 := Lib.hid (hr.out.below hB3.out)
        have hsz := hb.out.size
        clear hB2 hrg hb hg hal
        go_wp2_with (at_builtin; refine wpList_append_nums rfl _ _ rfl wr.heap.size _ _ [n] of rfl rfl (OwnN.one wr n) (hrd3.out.below ((Below.refl _ _).alloc (Nat.le_refl _) _)) (by simp; omega) (by simp) ?_)
        intro v7 w4 hown4 hb4
        have hb5 : Hid (Below wr.heap.size wr w4) := Lib.hid (((Below.refl wr.heap.size wr).alloc (Nat.le_refl _) (.cells #[.int .u64 n] 35)).trans hb4)
        have hB4 := Lib.hid (hB3.out.trans (hb5.out.mono hB3.out.size))
        have hrg4 := Lib.hid (hrg3.out.on hb5.out)
        have hrd4 := Lib.hid (hrd3.out.below hb5.out)
        have hall := Lib.hid hown4.rd
        obtain ⟨aa, ca, hva⟩ := hown4.len
        have hlen : (n :: of).length = of.length + 1 := by simp
        change v7 = .slice aa (n :: of).length ca at hva
        replace hall : Hid (Rd w4 v7 (n :: of).length ((n :: of).map encU)) := hall
        obtain ⟨all, hal2⟩ : ∃ all, n :: of = all := ⟨_, rfl⟩
        rw [hal2] at hall hlen hva
        subst hva
        clear hal2 hown4 hb4 hb5 hB3 hrg3 hrd3
        have hall2 : (all.length : Int) ≤ 301 := by omega
        clear hlen
        go_wp2_with fail
        go_loopw [8] (fun v8 wr => ∃ i : Nat, v8 = .int .i64 i ∧ i ≤ all.length ∧ Hid (Below w4.heap.size w4 wr)) (fun v8 _ => all.length - (intOf v8).toNat)
        case atStart => exact ⟨0, rfl, Nat.zero_le _, Lib.hid (Below.refl _ _)⟩
        case round =>
          obtain ⟨i, rfl, hi, hb⟩ := hrel
          by_cases hlt : i < all.length
          · have hl1 : (i : Int) < (all.length : Int) := by omega
            obtain ⟨x, hx⟩ : ∃ x, all[i] = x := ⟨_, rfl⟩
            have hbw := hb
            obtain ⟨b1, o1, c1', hva, hb1l, ca⟩ := rd_at (hall.out.below hb.out) hlt
            rw [hx] at ca
            injection hva with q1 q2 q3
            subst q1 q3
            go_wp2_with fail
            go_loopw [9, 10] (fun v9 v10 wr2 => ∃ k : Nat, v10 = .int .i64 k ∧ k ≤ of.length ∧ v9 = .bool (standsB of k x) ∧ Hid (Below wr.heap.size wr wr2)) (fun _ v10 _ => of.length - (intOf v10).toNat)
            case atStart => exact ⟨0, rfl, Nat.zero_le _, by simp [standsB], Lib.hid (Below.refl _ _)⟩
            case round =>
              obtain ⟨k, rfl, hk, rfl, hb6⟩ := hrel
              have hb7 := Lib.hid (hbw.out.trans (hb6.out.mono hbw.out.size))
              have ca2 := (hb6.out.cell (p := ⟨b1, o1 + i, none⟩) hb1l).trans ca
              by_cases hlt2 : k < of.length
              · have hl2 : (k : Int) < (of.length : Int) := by omega
                obtain ⟨b2, o2, c2', hvo, hb2l, co⟩ := rd_at (hrd4.out.below hb7.out) hlt2
                injection hvo with q1 q2 q3
                subst q1 q3
                have hst := standsB_step (x := x) hlt2
                generalize of[k] = y at co hst
                cases hs0 : standsB of k x
                · rw [hs0] at hst
                  have hyx : (y == x) = true ∨ (y == x) = false := by cases (y == x) <;> simp
                  rcases hyx with hyx | hyx
                  · have hyx2 : ((y : Int) == (x : Int)) = true := by simp at hyx ⊢; omega
                    have hy0 : decide (0 < y) = true ∨ decide (0 < y) = false := by cases decide (0 < y) <;> simp
                    rcases hy0 with hy0 | hy0
                    · have hy2 : decide ((0 : Int) < (y : Int)) = true := decide_eq_true (by simp at hy0; omega)
                      rw [hyx, hy0] at hst
                      replace hst := Lib.hid hst
                      go_wp2_with fail
                      go_quiet (fail)
                      have hb8 := Lib.hid (below_drewN hb6.out nq)
                      generalize wr.drewN nq = w8 at hb8 ⊢
                      clear ca2 co hyx hyx2 hy0 hy2 hb6 hb7
                      go_wp2_with fail
                      go_roundw
                      case rel => exact ⟨k + 1, by go_num, by omega, by rw [hst.out]; rfl, hb8⟩
                      case measure => simp [intOf] <;> omega
                    · have hy2 : decide ((0 : Int) < (y : Int)) = false := decide_eq_false (by simp at hy0; omega)
                      rw [hyx, hy0] at hst
                      replace hst := Lib.hid hst
                      go_wp2_with fail
                      go_quiet (fail)
                      have hb8 := Lib.hid (below_drewN hb6.out nq)
                      generalize wr.drewN nq = w8 at hb8 ⊢
                      clear ca2 co hyx hyx2 hy0 hy2 hb6 hb7
                      go_wp2_with fail
                      go_roundw
                      case rel => exact ⟨k + 1, by go_num, by omega, by rw [hst.out]; rfl, hb8⟩
                      case measure => simp [intOf] <;> omega
                  · have hyx2 : ((y : Int) == (x : Int)) = false := by simp at hyx ⊢; omega
                    rw [hyx] at hst
                    replace hst := Lib.hid hst
                    go_wp2_with fail
                    go_quiet (fail)
                    have hb8 := Lib.hid (below_drewN hb6.out nq)
                    generalize wr.drewN nq = w8 at hb8 ⊢
                    clear ca2 co hyx hyx2 hb6 hb7
                    go_wp2_with fail
                    go_roundw
                    case rel => exact ⟨k + 1, by go_num, by omega, by rw [hst.out]; rfl, hb8⟩
                    case measure => simp [intOf] <;> omega
                · rw [hs0] at hst
                  replace hst := Lib.hid hst
                  go_wp2_with fail
                  go_quiet (fail)
                  have hb8 := Lib.hid (below_drewN hb6.out nq)
                  generalize wr.drewN nq = w8 at hb8 ⊢
                  clear ca2 co hb6 hb7
                  go_wp2_with fail
                  go_roundw
                  case rel => exact ⟨k + 1, by go_num, by omega, by rw [hst.out]; rfl, hb8⟩
                  case measure => simp [intOf] <;> omega
              · obtain rfl : k = of.length := by omega
                have hst : standsB of of.length x = decide (x ∈ ts) := by
                  unfold standsB
                  rw [List.take_length]
                  congr 1
                  exact propext ⟨fun h => (hts.out x).2 ⟨h.2, h.1⟩, fun h => ⟨((hts.out x).1 h).2, ((hts.out x).1 h).1⟩⟩
                have hc := has_any rs _ 0 x _ (by omega) (hrg4.out.on hb7.out)
                rw [hin.out.has x, ← hst] at hc
                replace hc := Lib.hid hc
                clear hst
                go_wp2_with fail
                refine hc.out.mono ?_
                rintro e w8 ⟨rfl, hb8⟩
                have hb9 := Lib.hid (hb7.out.trans (hb8.mono hb7.out.size))
                clear hc hb8 hb7 hb6 ca2
                generalize standsB of of.length x = Z
                cases Z
                · go_wp2_with fail
                  go_roundw
                  case rel => exact ⟨i + 1, by go_num, by omega, hb9⟩
                  case measure => simp [intOf] <;> omega
                · go_wp2_with fail
                  go_roundw
                  case rel => exact ⟨i + 1, by go_num, by omega, hb9⟩
                  case measure => simp [intOf] <;> omega
          · have hl1 : (all.length : Int) ≤ (i : Int) := by omega
            have hB5 := Lib.hid (hB4.out.trans (hb.out.mono hB4.out.size))
            go_wp2_with fail
            go_ret
            exact ⟨rfl, hB5.out⟩
theorem few_card (v : Value) (y : Int) (hy : (Lit.int .u64 y).wf = true) (w : World) (hr : ∃ l : List Nat, Rd w v l.length (l.map encU) ∧ (∀ x ∈ l, x < 18446744073709551616) ∧ l.length * 8 ≤ reachBytes) (hT : Tab w) (hE : Errs w) (hm : ∃ m, w.cell? ⟨0, 0, none⟩ = some (.int .i64 m)) :
    Calls Tryd.prog 6 #[v, .int .u64 y] w fun e w' => e = .returned (.bool true) ∧ Below w.heap.size w w' := by
  obtain ⟨l, g1, g2, g3⟩ := hr
  have hb := bounds_u64 hy
  obtain ⟨b, rfl⟩ : ∃ b : Nat, y = b := ⟨y.toNat, (Int.toNat_of_nonneg hb.1).symm⟩
  unfold reachBytes at g3
  exact few_any alive_any l v b (by omega) w g1 g2 (by omega) ⟨hT, hE, hm⟩
end Go.Proofs.YtifpmcfadmmkiaaDoor
