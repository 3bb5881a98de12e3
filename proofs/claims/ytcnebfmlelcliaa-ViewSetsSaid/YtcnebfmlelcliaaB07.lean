/- The document's answer whether homes and seats may be: walked. (written by tools/gen_MmN.py) The document's answer which states are right: walked. (written by tools/gen_MmO.py) -/
import Derived.Test.YtcnebfmlelcliaaB06
namespace Go.Proofs.Ytcnebfmlelcliaa
set_option linter.unusedSimpArgs false
open Go.RowKit
attribute [local go_sem ↓] Go.wp_at_zero Go.wp_at_succ

/-- homes that rise so far -/
def HUp (l : List Hm) (j : Nat) (nd : Int) : Prop := (∀ x ∈ l.take j, HomeP x) ∧ (l.take j).Pairwise (fun x y => x.node < y.node) ∧ (∀ x ∈ l.take j, x.node ≤ nd) ∧ 0 ≤ nd ∧ (nd = 0 ∨ ∃ (k : Nat) (h : k < l.length), k < j ∧ l[k].node = nd)
theorem HUp.step {l : List Hm} {j : Nat} {nd : Int} (h : HUp l j nd) (hj : j < l.length) (hp : HomeP l[j]) (hl : nd < l[j].node) : HUp l (j + 1) l[j].node := by
  unfold HUp
  rw [List.take_succ_eq_append_getElem hj]
  refine ⟨fun x hx => ?_, ?_, fun x hx => ?_, by have := h.2.2.2.1; omega, .inr ⟨j, hj, by omega, rfl⟩⟩
  · rcases List.mem_append.1 hx with hx | hx
    · exact h.1 x hx
    · rw [List.mem_singleton.1 hx]; exact hp
  · refine List.pairwise_append.2 ⟨h.2.1, by simp, fun x hx y hy => ?_⟩
    rw [List.mem_singleton.1 hy]
    have := h.2.2.1 x hx
    omega
  · rcases List.mem_append.1 hx with hx | hx
    · have := h.2.2.1 x hx; omega
    · rw [List.mem_singleton.1 hx]; exact Int.le_refl _
theorem HUp.need {l : List Hm} {j : Nat} {nd : Int} (h : HUp l j nd) (hj : j < l.length) (h1 : ∀ x ∈ l, HomeP x) (h2 : l.Pairwise (fun x y => x.node < y.node)) : nd < l[j].node := by
  rcases h.2.2.2.2 with h3 | ⟨k, hk, hkj, h3⟩
  · have := (h1 _ (List.getElem_mem hj)).n1; omega
  · have := List.pairwise_iff_getElem.1 h2 k j hk hj hkj; omega
/-- seats that rise so far -/
def SUp (m : Ml) (l : List St) (j : Nat) (last : Nat) : Prop := (∀ x ∈ l.take j, SeatP m x) ∧ (l.take j).Pairwise (fun x y => x.session < y.session) ∧ (l.take j).Pairwise (fun x y => ¬ (x.node = y.node ∧ x.try_ = y.try_)) ∧ (∀ x ∈ l.take j, x.session ≤ last) ∧ (last = 0 ∨ ∃ (k : Nat) (h : k < l.length), k < j ∧ l[k].session = last)
theorem SUp.step {m : Ml} {l : List St} {j : Nat} {nd : Nat} (h : SUp m l j nd) (hj : j < l.length) (hp : SeatP m l[j]) (hl : nd < l[j].session) (ht : ∀ k (hk : k < l.length), k < j → ¬ (l[k].node = l[j].node ∧ l[k].try_ = l[j].try_)) : SUp m l (j + 1) l[j].session := by
  unfold SUp
  rw [List.take_succ_eq_append_getElem hj]
  refine ⟨fun x hx => ?_, ?_, ?_, fun x hx => ?_, .inr ⟨j, hj, by omega, rfl⟩⟩
  · rcases List.mem_append.1 hx with hx | hx
    · exact h.1 x hx
    · rw [List.mem_singleton.1 hx]; exact hp
  · refine List.pairwise_append.2 ⟨h.2.1, by simp, fun x hx y hy => ?_⟩
    rw [List.mem_singleton.1 hy]
    have := h.2.2.2.1 x hx
    omega
  · refine List.pairwise_append.2 ⟨h.2.2.1, by simp, fun x hx y hy => ?_⟩
    rw [List.mem_singleton.1 hy]
    obtain ⟨k, hk, rfl⟩ := List.mem_iff_getElem.1 hx
    rw [List.length_take] at hk
    rw [List.getElem_take]
    exact ht k (by omega) (by omega)
  · rcases List.mem_append.1 hx with hx | hx
    · have := h.2.2.2.1 x hx; omega
    · rw [List.mem_singleton.1 hx]; exact Nat.le_refl _
theorem SUp.need {m : Ml} {l : List St} {j : Nat} {nd : Nat} (h : SUp m l j nd) (hj : j < l.length) (h1 : ∀ x ∈ l, SeatP m x) (h2 : l.Pairwise (fun x y => x.session < y.session)) : nd < l[j].session := by
  rcases h.2.2.2.2 with h3 | ⟨k, hk, hkj, h3⟩
  · have := (h1 _ (List.getElem_mem hj)).s1; omega
  · have := List.pairwise_iff_getElem.1 h2 k j hk hj hkj; omega
/-- the home of a seat -/
theorem seat_home {m : Ml} {x : St} (hup : m.homes.Pairwise (fun x y => x.node < y.node)) : (∃ h ∈ m.homes, h.node = x.node ∧ h.life = x.life ∧ x.try_ ≤ h.try_) ↔ (m.homes.find? (fun h => h.node == x.node)).isSome = true ∧ ((m.homes.find? (fun h => h.node == x.node)).getD ⟨0, 0, 0⟩).life = x.life ∧ x.try_ ≤ ((m.homes.find? (fun h => h.node == x.node)).getD ⟨0, 0, 0⟩).try_ := by
  constructor
  · rintro ⟨h, hm, h1, h2, h3⟩
    cases hf : m.homes.find? (fun h => h.node == x.node) with
    | none =>
      have := List.find?_eq_none.1 hf h hm
      rw [h1] at this; simp at this
    | some g =>
      have hg := List.mem_of_find?_eq_some hf
      have hgn : g.node = x.node := by have := List.find?_some hf; simpa using this
      obtain ⟨i, hi, rfl⟩ := List.mem_iff_getElem.1 hm
      obtain ⟨j, hj, rfl⟩ := List.mem_iff_getElem.1 hg
      have : i = j := by
        rcases Nat.lt_trichotomy i j with h4 | h4 | h4
        · have := List.pairwise_iff_getElem.1 hup i j hi hj h4; omega
        · exact h4
        · have := List.pairwise_iff_getElem.1 hup j i hj hi h4; omega
      subst this
      exact ⟨rfl, h2, h3⟩
  · rintro ⟨h1, h2, h3⟩
    cases hf : m.homes.find? (fun h => h.node == x.node) with
    | none => rw [hf] at h1; cases h1
    | some g =>
      rw [hf] at h2 h3
      exact ⟨g, List.mem_of_find?_eq_some hf, by have := List.find?_some hf; simpa using this, h2, h3⟩
set_option maxRecDepth 100000 in
set_option maxHeartbeats 16000000 in
theorem refSeated_any {W : World} {m : Ml} (v : Value) (hin : MlIn W v m) (hlh : m.homes.length ≤ 1000) (hls : m.seats.length ≤ 1000) :
    Calls Try.prog 51 #[v] W (YesNo (SeatsP m) W) := by
  obtain ⟨vb, vh, vs, bs, rfl, hbs, hib, hih, his⟩ := hin
  obtain ⟨ab, cb, rfl, -⟩ := hib.1
  have hih0 : Hid (∀ w', Below W.heap.size W w' → HmsIn w' vh m.homes) := Lib.hid (fun w' h => Rd.below hih h)
  have his0 : Hid (∀ w', Below W.heap.size W w' → StsIn w' vs m.seats) := Lib.hid (fun w' h => Rd.below his h)
  obtain ⟨ah, ch, rfl, -⟩ := hih
  obtain ⟨as_, cs, rfl, -⟩ := his
  have hz1 := (Zoo.nil W).newBox [.slice ab bs.length cb, .int .u64 m.nv, .slice ah m.homes.length ch, .slice as_ m.seats.length cs, .int .u64 m.ns, .int .u64 m.sweeps].toArray 47
  generalize hMB : W.heap.size = MB at hz1
  generalize hWa : (W.alloc (.cells [.slice ab bs.length cb, .int .u64 m.nv, .slice ah m.homes.length ch, .slice as_ m.seats.length cs, .int .u64 m.ns, .int .u64 m.sweeps].toArray 47)) = Wa at hz1
  replace hz1 := Lib.hid hz1
  clear hib hbs
  unfold mlVal
  generalize hP : SeatsP m = Pp
  replace hP := Lib.hid hP
  go_enter Try.func51, Try.ntmps51
  go_wp2_with fail
  clear hMB hWa
  go_loopw [3, 4] (fun v3 v4 wr => ∃ (j : Nat) (nd : Int), v4 = .int .i64 j ∧ v3 = .int .i64 nd ∧ j ≤ m.homes.length ∧ Hid (HUp m.homes j nd) ∧ wr = Wa) (fun _ v4 _ => m.homes.length - (intOf v4).toNat)
  case atStart => exact ⟨0, 0, rfl, rfl, Nat.zero_le _, Lib.hid ⟨fun x hx => by simp at hx, by simp, fun x hx => by simp at hx, by omega, .inl rfl⟩, rfl⟩
  case round =>
    obtain ⟨j, nd, rfl, rfl, hj, hup, rfl⟩ := hrel
    obtain ⟨hbM, -⟩ := hz1.out.box 0 rfl
    have x2 : wr.cell? ⟨MB, 2, none⟩ = some (.slice ah m.homes.length ch) := box_cell hbM 2
    have x3 : wr.cell? ⟨MB, 3, none⟩ = some (.slice as_ m.seats.length cs) := box_cell hbM 3
    clear hbM
    by_cases hlt : j < m.homes.length
    · have hin := hih0.out wr hz1.out.bel
      obtain ⟨b, bo, cap, hv, -, hblt, hcells⟩ := hmT.rd_cells hin hlt
      injection hv with hv1 hv2 hv3
      subst hv1 hv3
      have hneed : SeatsP m → HomeP m.homes[j] ∧ nd < m.homes[j].node := fun h => ⟨h.homes _ (List.getElem_mem hlt), hup.out.need hlt h.homes h.hup⟩
      have hstep : HomeP m.homes[j] → nd < m.homes[j].node → HUp m.homes (j + 1) m.homes[j].node := fun h1 h2 => hup.out.step hlt h1 h2
      have hnd0 := hup.out.2.2.2.1
      obtain ⟨x, hx⟩ : ∃ x, m.homes[j] = x := ⟨_, rfl⟩
      rw [hx] at hcells hneed hstep
      have r0 : wr.cell? ⟨b, bo + (j * 3 + 0), none⟩ = some (.int .i64 x.node) := hcells 0 _ rfl
      have r1 : wr.cell? ⟨b, bo + (j * 3 + 1), none⟩ = some (.int .u64 x.life) := hcells 1 _ rfl
      have r2 : wr.cell? ⟨b, bo + (j * 3 + 2), none⟩ = some (.int .u64 x.try_) := hcells 2 _ rfl
      rw [← Nat.add_assoc] at r0 r1 r2
      rw [Nat.add_zero] at r0
      have hj0 : (0 : Int) ≤ (j : Int) := by omega
      have hj1 : (j : Int) < (m.homes.length : Int) := by omega
      replace hneed := Lib.hid hneed
      replace hstep := Lib.hid hstep
      clear hcells hin hx hup
      go_upto_region 5 with fail
      go_cut [52] (fun v52 wx => v52 = .bool ((decide (x.node ≤ nd)) || (decide (5 < x.node)) || (((x.life : Int) == 0)) || (((x.try_ : Int) == 0))) ∧ wx = wr)
      case first =>
        cases l1 : decide (x.node ≤ nd) with
        | true =>
          have l1' := of_decide_eq_true l1
          replace l1 := Lib.hid l1
          go_wp2_with fail
          go_meet
          case rel => exact ⟨by simp only [l1.out, Bool.or_false, Bool.or_true, Bool.false_or, Bool.true_or], rfl⟩
        | false =>
          cases l2 : decide (5 < x.node) with
          | true =>
            have l2' := of_decide_eq_true l2
            replace l2 := Lib.hid l2
            go_wp2_with fail
            go_meet
            case rel => exact ⟨by simp only [l1, l2.out, Bool.or_false, Bool.or_true, Bool.false_or, Bool.true_or], rfl⟩
          | false =>
            cases l3 : ((x.life : Int) == 0) with
            | true =>
              go_wp2_with fail
              go_meet
              case rel => exact ⟨by simp only [l1, l2, l3, Bool.or_false, Bool.or_true, Bool.false_or, Bool.true_or], rfl⟩
            | false =>
              cases l4 : ((x.try_ : Int) == 0) with
              | true =>
                go_wp2_with fail
                go_meet
                case rel => exact ⟨by simp only [l1, l2, l3, l4, Bool.or_false, Bool.or_true, Bool.false_or, Bool.true_or], rfl⟩
              | false =>
                go_wp2_with fail
                go_meet
                case rel => exact ⟨by simp only [l1, l2, l3, l4, Bool.or_false, Bool.or_true, Bool.false_or, Bool.true_or], rfl⟩
      case rest =>
      obtain ⟨rfl, rfl⟩ := hcut
      obtain ⟨B, hB⟩ : ∃ B, ((decide (x.node ≤ nd)) || (decide (5 < x.node)) || (((x.life : Int) == 0)) || (((x.try_ : Int) == 0))) = B := ⟨_, rfl⟩
      rw [hB]
      cases B with
      | true =>
        have hno : Hid (false = true ↔ Pp) := Lib.hid (by
          rw [← hP.out]
          refine Iff.intro (fun h => by cases h) (fun h => ?_)
          obtain ⟨h1, h2⟩ := hneed.out h
          have l1 : decide (x.node ≤ nd) = false := decide_eq_false (by omega)
          have l2 : decide (5 < x.node) = false := decide_eq_false (by have := h1.n2; omega)
          have l3 : ((x.life : Int) == 0) = false := beq_eq_false_iff_ne.2 (by have := h1.l; omega)
          have l4 : ((x.try_ : Int) == 0) = false := beq_eq_false_iff_ne.2 (by have := h1.t; omega)
          rw [l1, l2, l3, l4] at hB
          exact absurd hB (by simp))
        have hbF := Lib.hid hz1.out.bel
        clear hB hneed hstep hz1
        go_wp2_with fail
        go_ret
        exact ⟨false, rfl, hno, hbF⟩
      | false =>
        simp only [Bool.or_eq_false_iff] at hB
        obtain ⟨⟨⟨l1, l2⟩, l3⟩, l4⟩ := hB
        have hlp : HomeP x ∧ nd < x.node := by
          have l1' := of_decide_eq_false l1
          have l2' := of_decide_eq_false l2
          have l3' := beq_eq_false_iff_ne.1 l3
          have l4' := beq_eq_false_iff_ne.1 l4
          exact ⟨⟨by omega, by omega, by omega, by omega⟩, by omega⟩
        have hup2 := Lib.hid (hstep.out hlp.1 hlp.2)
        clear l1 l2 l3 l4 hlp hstep hneed
        go_wp2_with fail
        go_roundw
        case rel => exact ⟨j + 1, x.node, by go_num, rfl, by omega, hup2, trivial⟩
        case measure => simp [intOf] <;> omega
    · have hj1 : (m.homes.length : Int) ≤ (j : Int) := by omega
      have hj2 : ¬ ((j : Int) < (m.homes.length : Int)) := by omega
      have hhP : Hid ((∀ x ∈ m.homes, HomeP x) ∧ m.homes.Pairwise (fun x y => x.node < y.node)) := Lib.hid (by
        have h1 := hup.out
        unfold HUp at h1
        rw [show j = m.homes.length from by omega, List.take_length] at h1
        exact ⟨h1.1, h1.2.1⟩)
      clear hup
      go_wp2_with fail
      clear x2 x3
      go_loopw [5, 6] (fun v5 v6 wr => ∃ i last : Nat, v6 = .int .i64 i ∧ v5 = .int .u64 last ∧ i ≤ m.seats.length ∧ Hid (SUp m m.seats i last) ∧ Hid (Zoo W wr [boxT MB [.slice ab bs.length cb, .int .u64 m.nv, .slice ah m.homes.length ch, .slice as_ m.seats.length cs, .int .u64 m.ns, .int .u64 m.sweeps].toArray 47])) (fun _ v6 _ => m.seats.length - (intOf v6).toNat)
      case atStart => exact ⟨0, 0, rfl, rfl, Nat.zero_le _, Lib.hid ⟨fun x hx => by simp at hx, by simp, by simp, fun x hx => by simp at hx, .inl rfl⟩, hz1⟩
      case round =>
        clear hz1 hj1 hj2 hlt hj
        obtain ⟨i, last, rfl, rfl, hi, hup, hz⟩ := hrel
        generalize wr = wo at *
        obtain ⟨hbM, -⟩ := hz.out.box 0 rfl
        have x0 : wo.cell? ⟨MB, 0, none⟩ = some (.slice ab bs.length cb) := box_cell hbM 0
        have x1 : wo.cell? ⟨MB, 1, none⟩ = some (.int .u64 m.nv) := box_cell hbM 1
        have x2 : wo.cell? ⟨MB, 2, none⟩ = some (.slice ah m.homes.length ch) := box_cell hbM 2
        have x3 : wo.cell? ⟨MB, 3, none⟩ = some (.slice as_ m.seats.length cs) := box_cell hbM 3
        have x4 : wo.cell? ⟨MB, 4, none⟩ = some (.int .u64 m.ns) := box_cell hbM 4
        have x5 : wo.cell? ⟨MB, 5, none⟩ = some (.int .u64 m.sweeps) := box_cell hbM 5
        by_cases hlt : i < m.seats.length
        · have hin := his0.out wo hz.out.bel
          obtain ⟨b, bo, cap, hv, -, hblt, hcells⟩ := stT.rd_cells hin hlt
          injection hv with hv1 hv2 hv3
          subst hv1 hv3
          have hneed : SeatsP m → SeatP m m.seats[i] ∧ last < m.seats[i].session := fun h => ⟨h.seats _ (List.getElem_mem hlt), hup.out.need hlt h.seats h.sup⟩
          have hstep : SeatP m m.seats[i] → last < m.seats[i].session → (∀ k (hk : k < m.seats.length), k < i → ¬ (m.seats[k].node = m.seats[i].node ∧ m.seats[k].try_ = m.seats[i].try_)) → SUp m m.seats (i + 1) m.seats[i].session := fun h1 h2 h3 => hup.out.step hlt h1 h2 h3
          have htwin : SeatsP m → ∀ k (hk : k < m.seats.length), k < i → ¬ (m.seats[k].node = m.seats[i].node ∧ m.seats[k].try_ = m.seats[i].try_) := fun h k hk hki => List.pairwise_iff_getElem.1 h.twin k i hk hlt hki
          obtain ⟨x, hx⟩ : ∃ x, m.seats[i] = x := ⟨_, rfl⟩
          rw [hx] at hcells hneed hstep htwin
          have r0 : wo.cell? ⟨b, bo + (i * 5 + 0), none⟩ = some (.int .u64 x.session) := hcells 0 _ rfl
          have r1 : wo.cell? ⟨b, bo + (i * 5 + 1), none⟩ = some (.int .u64 x.last) := hcells 1 _ rfl
          have r2 : wo.cell? ⟨b, bo + (i * 5 + 2), none⟩ = some (.int .i64 x.node) := hcells 2 _ rfl
          have r3 : wo.cell? ⟨b, bo + (i * 5 + 3), none⟩ = some (.int .u64 x.life) := hcells 3 _ rfl
          have r4 : wo.cell? ⟨b, bo + (i * 5 + 4), none⟩ = some (.int .u64 x.try_) := hcells 4 _ rfl
          rw [← Nat.add_assoc] at r0 r1 r2 r3 r4
          rw [Nat.add_zero] at r0
          have hi0 : (0 : Int) ≤ (i : Int) := by omega
          have hi1 : (i : Int) < (m.seats.length : Int) := by omega
          have hzS := hz.out.newBox [.int .u64 x.session, .int .u64 x.last, .int .i64 x.node, .int .u64 x.life, .int .u64 x.try_].toArray 108
          replace hneed := Lib.hid hneed
          replace hstep := Lib.hid hstep
          replace htwin := Lib.hid htwin
          generalize hSB : wo.heap.size = SB at hzS
          generalize hWs : (wo.alloc (.cells [.int .u64 x.session, .int .u64 x.last, .int .i64 x.node, .int .u64 x.life, .int .u64 x.try_].toArray 108)) = ws at hzS
          have hhome : Hid (Calls Try.prog 61 #[.agg #[.slice ab bs.length cb, .int .u64 m.nv, .slice ah m.homes.length ch, .slice (some ⟨b, bo, none⟩) m.seats.length cs, .int .u64 m.ns, .int .u64 m.sweeps], .int .i64 x.node] ws (HomeRet ws m.homes x.node)) := Lib.hid (refHome_any ab ah (some ⟨b, bo, none⟩) bs.length cb ch m.seats.length cs m.nv m.ns m.sweeps m.homes x.node (hih0.out ws hzS.bel) (by omega))
          clear x0 x1 x2 x4 x5 hbM
          obtain ⟨hbM, -⟩ := hzS.box 1 rfl
          have x0 : ws.cell? ⟨MB, 0, none⟩ = some (.slice ab bs.length cb) := box_cell hbM 0
          have x1 : ws.cell? ⟨MB, 1, none⟩ = some (.int .u64 m.nv) := box_cell hbM 1
          have x2 : ws.cell? ⟨MB, 2, none⟩ = some (.slice ah m.homes.length ch) := box_cell hbM 2
          have x3 : ws.cell? ⟨MB, 3, none⟩ = some (.slice (some ⟨b, bo, none⟩) m.seats.length cs) := box_cell hbM 3
          have x4 : ws.cell? ⟨MB, 4, none⟩ = some (.int .u64 m.ns) := box_cell hbM 4
          have x5 : ws.cell? ⟨MB, 5, none⟩ = some (.int .u64 m.sweeps) := box_cell hbM 5
          obtain ⟨hbS, -⟩ := hzS.box 0 rfl
          have y0 : ws.cell? ⟨SB, 0, none⟩ = some (.int .u64 x.session) := box_cell hbS 0
          have y1 : ws.cell? ⟨SB, 1, none⟩ = some (.int .u64 x.last) := box_cell hbS 1
          have y2 : ws.cell? ⟨SB, 2, none⟩ = some (.int .i64 x.node) := box_cell hbS 2
          have y3 : ws.cell? ⟨SB, 3, none⟩ = some (.int .u64 x.life) := box_cell hbS 3
          have y4 : ws.cell? ⟨SB, 4, none⟩ = some (.int .u64 x.try_) := box_cell hbS 4
          replace hzS := Lib.hid hzS
          clear hcells hin hx hup hz hbM hbS
          go_wp2_with fail
          refine hhome.out.mono ?_
          rintro e w5 ⟨rfl, hb5⟩
          clear hhome r0 r1 r2 r3 r4 x0 x1 x2 x3 x4 x5 y0 y1 y2 y3 y4 hSB hWs
          obtain ⟨h, hh⟩ : ∃ h, (m.homes.find? (fun h => h.node == x.node)).getD ⟨0, 0, 0⟩ = h := ⟨_, rfl⟩
          obtain ⟨ok, hok⟩ : ∃ ok, (m.homes.find? (fun h => h.node == x.node)).isSome = ok := ⟨_, rfl⟩
          rw [hh, hok]
          have hsp : Hid (SeatP m x ↔ (1 ≤ x.session ∧ x.session < m.ns ∧ 1 ≤ x.try_) ∧ ok = true ∧ h.life = x.life ∧ x.try_ ≤ h.try_) := Lib.hid (by
            have h1 := seat_home (x := x) hhP.out.2
            rw [hh, hok] at h1
            constructor
            · intro g; exact ⟨⟨g.s1, g.s2, g.t1⟩, h1.1 g.home⟩
            · intro g; exact ⟨g.1.1, g.1.2.1, g.1.2.2, h1.2 g.2⟩)
          clear hh hok
          have hz6 := (hzS.out.below hb5.out).newBox [.int .i64 h.node, .int .u64 h.life, .int .u64 h.try_].toArray 106
          generalize hHB : w5.heap.size = HB at hz6
          generalize hWh : (w5.alloc (.cells [.int .i64 h.node, .int .u64 h.life, .int .u64 h.try_].toArray 106)) = wh at hz6
          unfold hmCells
          obtain ⟨hbM, -⟩ := hz6.box 2 rfl
          have x0 : wh.cell? ⟨MB, 0, none⟩ = some (.slice ab bs.length cb) := box_cell hbM 0
          have x1 : wh.cell? ⟨MB, 1, none⟩ = some (.int .u64 m.nv) := box_cell hbM 1
          have x2 : wh.cell? ⟨MB, 2, none⟩ = some (.slice ah m.homes.length ch) := box_cell hbM 2
          have x3 : wh.cell? ⟨MB, 3, none⟩ = some (.slice (some ⟨b, bo, none⟩) m.seats.length cs) := box_cell hbM 3
          have x4 : wh.cell? ⟨MB, 4, none⟩ = some (.int .u64 m.ns) := box_cell hbM 4
          have x5 : wh.cell? ⟨MB, 5, none⟩ = some (.int .u64 m.sweeps) := box_cell hbM 5
          obtain ⟨hbS, -⟩ := hz6.box 1 rfl
          have y0 : wh.cell? ⟨SB, 0, none⟩ = some (.int .u64 x.session) := box_cell hbS 0
          have y1 : wh.cell? ⟨SB, 1, none⟩ = some (.int .u64 x.last) := box_cell hbS 1
          have y2 : wh.cell? ⟨SB, 2, none⟩ = some (.int .i64 x.node) := box_cell hbS 2
          have y3 : wh.cell? ⟨SB, 3, none⟩ = some (.int .u64 x.life) := box_cell hbS 3
          have y4 : wh.cell? ⟨SB, 4, none⟩ = some (.int .u64 x.try_) := box_cell hbS 4
          obtain ⟨hbH, -⟩ := hz6.box 0 rfl
          have h0 : wh.cell? ⟨HB, 0, none⟩ = some (.int .i64 h.node) := box_cell hbH 0
          have h1 : wh.cell? ⟨HB, 1, none⟩ = some (.int .u64 h.life) := box_cell hbH 1
          have h2 : wh.cell? ⟨HB, 2, none⟩ = some (.int .u64 h.try_) := box_cell hbH 2
          replace hz6 := Lib.hid hz6
          clear hbM hbS hbH hzS hb5
          go_upto_region 14 with fail
          go_cut [111] (fun v111 wx => v111 = .bool ((decide ((x.session : Int) ≤ (last : Int))) || (decide ((m.ns : Int) ≤ (x.session : Int))) || (!ok) || (((h.life : Int) != (x.life : Int))) || (((x.try_ : Int) == 0)) || (decide ((h.try_ : Int) < (x.try_ : Int)))) ∧ wx = wh)
          case first =>
            cases l1 : decide ((x.session : Int) ≤ (last : Int)) with
            | true =>
              have l1' := of_decide_eq_true l1
              replace l1 := Lib.hid l1
              go_wp2_with fail
              go_meet
              case rel => exact ⟨by simp only [l1.out, Bool.or_false, Bool.or_true, Bool.false_or, Bool.true_or], rfl⟩
            | false =>
              have l1'' : decide (x.session ≤ last) = false := decide_eq_false (by have h := of_decide_eq_false l1; omega)
              cases l2 : decide ((m.ns : Int) ≤ (x.session : Int)) with
              | true =>
                have l2' := of_decide_eq_true l2
                replace l2 := Lib.hid l2
                go_wp2_with fail
                go_meet
                case rel => exact ⟨by simp only [l1, l2.out, Bool.or_false, Bool.or_true, Bool.false_or, Bool.true_or], rfl⟩
              | false =>
                have l2'' : decide (m.ns ≤ x.session) = false := decide_eq_false (by have h := of_decide_eq_false l2; omega)
                cases l3 : !ok with
                | true =>
                  go_wp2_with fail
                  go_meet
                  case rel => exact ⟨by simp only [l1, l2, l3, Bool.or_false, Bool.or_true, Bool.false_or, Bool.true_or], rfl⟩
                | false =>
                  cases l4 : ((h.life : Int) != (x.life : Int)) with
                  | true =>
                    have l4' : ((h.life : Int) == (x.life : Int)) = false := by simpa [bne] using l4
                    go_wp2_with fail
                    go_meet
                    case rel => exact ⟨by simp only [l1, l2, l3, l4, Bool.or_false, Bool.or_true, Bool.false_or, Bool.true_or], rfl⟩
                  | false =>
                    have l4' : ((h.life : Int) == (x.life : Int)) = true := by simpa [bne] using l4
                    cases l5 : ((x.try_ : Int) == 0) with
                    | true =>
                      go_wp2_with fail
                      go_meet
                      case rel => exact ⟨by simp only [l1, l2, l3, l4, l5, Bool.or_false, Bool.or_true, Bool.false_or, Bool.true_or], rfl⟩
                    | false =>
                      cases l6 : decide ((h.try_ : Int) < (x.try_ : Int)) with
                      | true =>
                        have l6' := of_decide_eq_true l6
                        replace l6 := Lib.hid l6
                        go_wp2_with fail
                        go_meet
                        case rel => exact ⟨by simp only [l1, l2, l3, l4, l5, l6.out, Bool.or_false, Bool.or_true, Bool.false_or, Bool.true_or], rfl⟩
                      | false =>
                        have l6'' : decide (h.try_ < x.try_) = false := decide_eq_false (by have h := of_decide_eq_false l6; omega)
                        go_wp2_with fail
                        go_meet
                        case rel => exact ⟨by simp only [l1, l2, l3, l4, l5, l6, Bool.or_false, Bool.or_true, Bool.false_or, Bool.true_or], rfl⟩
          case rest =>
          obtain ⟨rfl, rfl⟩ := hcut
          obtain ⟨B, hB⟩ : ∃ B, ((decide ((x.session : Int) ≤ (last : Int))) || (decide ((m.ns : Int) ≤ (x.session : Int))) || (!ok) || (((h.life : Int) != (x.life : Int))) || (((x.try_ : Int) == 0)) || (decide ((h.try_ : Int) < (x.try_ : Int)))) = B := ⟨_, rfl⟩
          rw [hB]
          clear x0 x1 x2 x3 x4 x5 y0 y1 y2 y3 y4 h0 h1 h2 hHB hWh
          cases B with
          | true =>
            have hno : Hid (false = true ↔ Pp) := Lib.hid (by
              rw [← hP.out]
              refine Iff.intro (fun h => by cases h) (fun hs => ?_)
              obtain ⟨g1, g2⟩ := hneed.out hs
              obtain ⟨⟨g3, g4, g5⟩, g6, g7, g8⟩ := hsp.out.1 g1
              have l1 : decide ((x.session : Int) ≤ (last : Int)) = false := decide_eq_false (by omega)
              have l2 : decide ((m.ns : Int) ≤ (x.session : Int)) = false := decide_eq_false (by omega)
              have l3 : (!ok) = false := by rw [g6]; rfl
              have l4 : ((h.life : Int) != (x.life : Int)) = false := by rw [g7]; simp
              have l5 : ((x.try_ : Int) == 0) = false := beq_eq_false_iff_ne.2 (by omega)
              have l6 : decide ((h.try_ : Int) < (x.try_ : Int)) = false := decide_eq_false (by omega)
              rw [l1, l2, l3, l4, l5, l6] at hB
              exact absurd hB (by simp))
            have hbF := Lib.hid hz6.out.bel
            clear hB hneed hstep htwin hz6 hsp
            go_wp2_with fail
            go_ret
            exact ⟨false, rfl, hno, hbF⟩
          | false =>
            simp only [Bool.or_eq_false_iff] at hB
            obtain ⟨⟨⟨⟨⟨l1, l2⟩, l3⟩, l4⟩, l5⟩, l6⟩ := hB
            have hlp : SeatP m x ∧ last < x.session := by
              have l1' := of_decide_eq_false l1
              have l2' := of_decide_eq_false l2
              have l5' := beq_eq_false_iff_ne.1 l5
              have l6' := of_decide_eq_false l6
              have l4' : h.life = x.life := by
                have : (h.life : Int) = (x.life : Int) := by simpa [bne] using l4
                omega
              exact ⟨hsp.out.2 ⟨⟨by omega, by omega, by omega⟩, by simpa using l3, l4', by omega⟩, by omega⟩
            have hup2 := Lib.hid (hstep.out hlp.1 hlp.2)
            obtain ⟨hbS, -⟩ := hz6.out.box 1 rfl
            have y0 : wc.cell? ⟨SB, 0, none⟩ = some (.int .u64 x.session) := box_cell hbS 0
            clear l1 l2 l3 l4 l5 l6 hlp hstep hneed hsp hbS
            go_wp2_with fail
            clear y0
            generalize wc = wq at *
            go_loopw [10] (fun v10 wr => ∃ k : Nat, v10 = .int .i64 k ∧ k ≤ i ∧ Hid (∀ k' (h : k' < m.seats.length), k' < k → ¬ (m.seats[k'].node = x.node ∧ m.seats[k'].try_ = x.try_)) ∧ Hid (Zoo W wr [boxT HB [.int .i64 h.node, .int .u64 h.life, .int .u64 h.try_].toArray 106, boxT SB [.int .u64 x.session, .int .u64 x.last, .int .i64 x.node, .int .u64 x.life, .int .u64 x.try_].toArray 108, boxT MB [.slice ab bs.length cb, .int .u64 m.nv, .slice ah m.homes.length ch, .slice (some ⟨b, bo, none⟩) m.seats.length cs, .int .u64 m.ns, .int .u64 m.sweeps].toArray 47])) (fun v10 _ => i - (intOf v10).toNat)
            case atStart => exact ⟨0, rfl, Nat.zero_le _, Lib.hid (fun k' h hk => by omega), hz6⟩
            case round =>
              clear hz6
              obtain ⟨k, rfl, hk, hno, hz⟩ := hrel
              by_cases hki : k < i
              · have hkl : k < m.seats.length := by omega
                obtain ⟨b2, bo2, cap2, hv, -, hb2, hcells⟩ := stT.rd_cells (his0.out wr hz.out.bel) hkl
                injection hv with hv1 hv2 hv3
                injection hv1 with hv1
                injection hv1 with hv1 hv1b
                subst hv1 hv1b
                obtain ⟨z, hzz⟩ : ∃ z, m.seats[k] = z := ⟨_, rfl⟩
                rw [hzz] at hcells
                have r2 : wr.cell? ⟨b, bo + (k * 5 + 2), none⟩ = some (.int .i64 z.node) := hcells 2 _ rfl
                have r4 : wr.cell? ⟨b, bo + (k * 5 + 4), none⟩ = some (.int .u64 z.try_) := hcells 4 _ rfl
                rw [← Nat.add_assoc] at r2 r4
                obtain ⟨hbS, -⟩ := hz.out.box 1 rfl
                obtain ⟨hbM, -⟩ := hz.out.box 2 rfl
                have y2 : wr.cell? ⟨SB, 2, none⟩ = some (.int .i64 x.node) := box_cell hbS 2
                have y4 : wr.cell? ⟨SB, 4, none⟩ = some (.int .u64 x.try_) := box_cell hbS 4
                have x3 : wr.cell? ⟨MB, 3, none⟩ = some (.slice (some ⟨b, bo, none⟩) m.seats.length cs) := box_cell hbM 3
                have hk0 : (0 : Int) ≤ (k : Int) := by omega
                have hk1 : (k : Int) < (i : Int) := by omega
                have hk2 : (k : Int) < (m.seats.length : Int) := by omega
                have hno2 : Hid (¬ (z.node = x.node ∧ z.try_ = x.try_) → ∀ k' (h : k' < m.seats.length), k' < k + 1 → ¬ (m.seats[k'].node = x.node ∧ m.seats[k'].try_ = x.try_)) := Lib.hid (fun h k' hk' hkk => by
                  by_cases e : k' = k
                  · subst e; rw [hzz]; exact h
                  · exact hno.out k' hk' (by omega))
                have hbad : Hid (z.node = x.node ∧ z.try_ = x.try_ → ¬ Pp) := Lib.hid (fun h hp => by
                  rw [← hP.out] at hp
                  have := htwin.out hp k hkl hki
                  rw [hzz] at this
                  exact this h)
                clear hcells hbS hbM hzz hno hv2 hv3
                cases c1 : (z.node == x.node) with
                | false =>
                  have hn := Lib.hid (hno2.out (fun h => by rw [h.1, beq_self_eq_true] at c1; cases c1))
                  clear hno2 hbad
                  go_wp2_with fail
                  go_quiet (fail)
                  go_wp2_with fail
                  go_roundw
                  case rel => exact ⟨k + 1, by go_num, by omega, hn, Lib.hid (hz.out.below (below_drewN (Below.refl _ _) nq))⟩
                  case measure => simp [intOf] <;> omega
                | true =>
                  cases c2 : ((z.try_ : Int) == (x.try_ : Int)) with
                  | false =>
                    have hn := Lib.hid (hno2.out (fun h => by rw [h.2, beq_self_eq_true] at c2; cases c2))
                    clear hno2 hbad
                    go_wp2_with fail
                    go_quiet (fail)
                    go_wp2_with fail
                    go_roundw
                    case rel => exact ⟨k + 1, by go_num, by omega, hn, Lib.hid (hz.out.below (below_drewN (Below.refl _ _) nq))⟩
                    case measure => simp [intOf] <;> omega
                  | true =>
                    have hn := Lib.hid (hbad.out ⟨eq_of_beq c1, by have := eq_of_beq c2; omega⟩)
                    have hbF := hz.out.bel
                    clear hno2 hbad
                    go_wp2_with fail
                    go_quiet (fail)
                    go_wp2_with fail
                    go_ret
                    exact ⟨false, rfl, Lib.hid (Iff.intro (fun h => by cases h) (fun h => absurd h hn.out)), Lib.hid (below_drewN hbF nq)⟩
              · have hk1 : (i : Int) ≤ (k : Int) := by omega
                have hk2 : ¬ ((k : Int) < (i : Int)) := by omega
                have hup3 := Lib.hid (hup2.out (fun k' hk' hki' => hno.out k' hk' (by omega)))
                have hzT := Lib.hid hz.out.tail.tail
                clear hup2 hno hz htwin
                go_wp2_with fail
                go_roundw
                case rel => exact ⟨i + 1, x.session, by go_num, rfl, by omega, hup3, hzT⟩
                case measure => simp [intOf] <;> omega
        · have hj1 : (m.seats.length : Int) ≤ (i : Int) := by omega
          have hj2 : ¬ ((i : Int) < (m.seats.length : Int)) := by omega
          have hyes : Hid Pp := Lib.hid (by
            rw [← hP.out]
            have h1 := hup.out
            unfold SUp at h1
            rw [show i = m.seats.length from by omega, List.take_length] at h1
            exact ⟨hhP.out.1, hhP.out.2, h1.1, h1.2.1, h1.2.2.1⟩)
          have hbF := Lib.hid hz.out.bel
          clear hup hz hbM
          go_wp2_with fail
          go_ret
          exact ⟨true, rfl, Lib.hid (Iff.intro (fun _ => hyes.out) (fun _ => rfl)), hbF⟩
end Go.Proofs.Ytcnebfmlelcliaa
namespace Go.Proofs.Ytcnebfmlelcliaa
set_option linter.unusedSimpArgs false
open Go.RowKit
attribute [local go_sem ↓] Go.wp_at_zero Go.wp_at_succ

def isInbox (b : Bx) : Bool := b.name.data.toList == inboxL
/-- mailboxes that rise so far -/
structure BUp (m : Ml) (i cnt : Nat) : Prop where
  bx : ∀ b ∈ m.boxes.take i, BoxP b m.nv
  nm : (m.boxes.take i).Pairwise (fun x y => bxltB x y = true)
  vl : (m.boxes.take i).Pairwise (fun x y => x.validity ≠ y.validity)
  cn : cnt = ((m.boxes.take i).filter isInbox).length
theorem BUp.step {m : Ml} {i cnt : Nat} (h : BUp m i cnt) (hi : i < m.boxes.length) (hb : BoxP m.boxes[i] m.nv) (hk : ∀ k (hk : k < m.boxes.length), k < i → bxltB m.boxes[k] m.boxes[i] = true ∧ m.boxes[k].validity ≠ m.boxes[i].validity) : BUp m (i + 1) (cnt + if isInbox m.boxes[i] then 1 else 0) := by
  have e := List.take_succ_eq_append_getElem hi
  refine ⟨fun x hx => ?_, ?_, ?_, ?_⟩
  · rw [e] at hx
    rcases List.mem_append.1 hx with hx | hx
    · exact h.bx x hx
    · rw [List.mem_singleton.1 hx]; exact hb
  · rw [e]
    refine List.pairwise_append.2 ⟨h.nm, by simp, fun x hx y hy => ?_⟩
    rw [List.mem_singleton.1 hy]
    obtain ⟨k, hk', rfl⟩ := List.mem_iff_getElem.1 hx
    rw [List.length_take] at hk'
    rw [List.getElem_take]
    exact (hk k (by omega) (by omega)).1
  · rw [e]
    refine List.pairwise_append.2 ⟨h.vl, by simp, fun x hx y hy => ?_⟩
    rw [List.mem_singleton.1 hy]
    obtain ⟨k, hk', rfl⟩ := List.mem_iff_getElem.1 hx
    rw [List.length_take] at hk'
    rw [List.getElem_take]
    exact (hk k (by omega) (by omega)).2
  · rw [e, List.filter_append, List.length_append, ← h.cn]
    congr 1
    cases hb : isInbox m.boxes[i] <;> simp [hb]
theorem one_inbox {l : List Bx} (hp : l.Pairwise (fun x y => bxltB x y = true)) : (l.filter isInbox).length = 1 ↔ ∃ b ∈ l, b.name.data.toList = inboxL := by
  constructor
  · intro h
    have : l.filter isInbox ≠ [] := fun e => by rw [e] at h; cases h
    obtain ⟨b, hb⟩ := List.exists_mem_of_ne_nil _ this
    have := List.mem_filter.1 hb
    exact ⟨b, this.1, by simpa [isInbox] using this.2⟩
  · rintro ⟨b, hb, he⟩
    have hf : b ∈ l.filter isInbox := List.mem_filter.2 ⟨hb, by simp [isInbox, he]⟩
    have hpf := hp.sublist (List.filter_sublist (p := isInbox))
    cases hc : l.filter isInbox with
    | nil => rw [hc] at hf; cases hf
    | cons x r =>
      cases r with
      | nil => rfl
      | cons y r =>
        rw [hc] at hpf
        have h1 := (List.pairwise_cons.1 hpf).1 y (by simp)
        have hx : isInbox x = true := (List.mem_filter.1 (show x ∈ l.filter isInbox by rw [hc]; simp)).2
        have hy : isInbox y = true := (List.mem_filter.1 (show y ∈ l.filter isInbox by rw [hc]; simp)).2
        unfold isInbox at hx hy
        unfold bxltB at h1
        rw [eq_of_beq hx, eq_of_beq hy, bytes_sto.irr] at h1
        cases h1
/-- what a state may have that is asked whether it is right -/
structure AskSz (m : Ml) : Prop where
  sz : Sized1 m
  nm : ∀ b ∈ m.boxes, b.name.size ≤ maxLen
  fs : ∀ b ∈ m.boxes, ∀ x ∈ b.letters, Sized x.flags
set_option maxRecDepth 100000 in
set_option maxHeartbeats 16000000 in
theorem refRightM_any {W : World} {m : Ml} (v : Value) (hin : MlIn W v m) (hsz : AskSz m) :
    Calls Try.prog 37 #[v] W (YesNo (RightP m) W) := by
  have hin0 := Lib.hid (fun (w' : World) (h : Below W.heap.size W w') => hin.below h)
  obtain ⟨vb, vh, vs, bs, rfl, hbs, hib, hih, his⟩ := hin
  have hib0 : Hid (∀ w', Below W.heap.size W w' → BxsIn w' vb bs) := Lib.hid (fun w' h => hib.below h)
  obtain ⟨ab, cb, rfl, -⟩ := hib.1
  obtain ⟨ah, ch, rfl, -⟩ := hih
  obtain ⟨as_, cs, rfl, -⟩ := his
  have hlb := Lib.hid (show bs.length = m.boxes.length by rw [← hbs, List.length_map])
  replace hbs := Lib.hid hbs
  have hz1 := (Zoo.nil W).newBox [.slice ab bs.length cb, .int .u64 m.nv, .slice ah m.homes.length ch, .slice as_ m.seats.length cs, .int .u64 m.ns, .int .u64 m.sweeps].toArray 47
  generalize hMB : W.heap.size = MB at hz1
  generalize hWa : (W.alloc (.cells [.slice ab bs.length cb, .int .u64 m.nv, .slice ah m.homes.length ch, .slice as_ m.seats.length cs, .int .u64 m.ns, .int .u64 m.sweeps].toArray 47)) = Wa at hz1
  obtain ⟨ns2, hns2⟩ : ∃ ns2 : Nat, ns2 = m.ns := ⟨_, rfl⟩
  obtain ⟨hbM, -⟩ := hz1.box 0 rfl
  have x0 : Wa.cell? ⟨MB, 0, none⟩ = some (.slice ab bs.length cb) := box_cell hbM 0
  have x1 : Wa.cell? ⟨MB, 1, none⟩ = some (.int .u64 m.nv) := box_cell hbM 1
  have x2 : Wa.cell? ⟨MB, 2, none⟩ = some (.slice ah m.homes.length ch) := box_cell hbM 2
  have x3 : Wa.cell? ⟨MB, 3, none⟩ = some (.slice as_ m.seats.length cs) := box_cell hbM 3
  have x4 : Wa.cell? ⟨MB, 4, none⟩ = some (.int .u64 ns2) := by rw [hns2]; exact box_cell hbM 4
  have x5 : Wa.cell? ⟨MB, 5, none⟩ = some (.int .u64 m.sweeps) := box_cell hbM 5
  replace hns2 := Lib.hid hns2
  replace hz1 := Lib.hid hz1
  replace hsz := Lib.hid hsz
  clear hib hbM
  unfold mlVal
  generalize hP : RightP m = Pp
  replace hP := Lib.hid hP
  go_enter Try.func37, Try.ntmps37
  go_upto_region 1 with fail
  clear hMB hWa
  go_cut [35] (fun v35 wx => v35 = .bool ((decide ((8 : Int) < (bs.length : Int))) || (decide ((4294967296 : Int) < (m.nv : Int))) || (((ns2 : Int) == 0)) || (decide ((4611686018427387904 : Int) < (ns2 : Int))) || (decide ((9223372036854775807 : Int) < (m.sweeps : Int))) || (decide ((16 : Int) < (m.seats.length : Int)))) ∧ wx = Wa)
  case first =>
    cases l1 : decide ((8 : Int) < (bs.length : Int)) with
    | true =>
      have l1' := of_decide_eq_true l1
      replace l1 := Lib.hid l1
      go_wp2_with fail
      go_meet
      case rel => exact ⟨by simp only [l1.out, Bool.or_false, Bool.or_true, Bool.false_or, Bool.true_or], rfl⟩
    | false =>
      cases l2 : decide ((4294967296 : Int) < (m.nv : Int)) with
      | true =>
        have l2' := of_decide_eq_true l2
        replace l2 := Lib.hid l2
        go_wp2_with fail
        go_meet
        case rel => exact ⟨by simp only [l1, l2.out, Bool.or_false, Bool.or_true, Bool.false_or, Bool.true_or], rfl⟩
      | false =>
        cases l3 : ((ns2 : Int) == 0) with
        | true =>
          go_wp2_with fail
          go_meet
          case rel => exact ⟨by simp only [l1, l2, l3, Bool.or_false, Bool.or_true, Bool.false_or, Bool.true_or], rfl⟩
        | false =>
          cases l4 : decide ((4611686018427387904 : Int) < (ns2 : Int)) with
          | true =>
            have l4' := of_decide_eq_true l4
            replace l4 := Lib.hid l4
            go_wp2_with fail
            go_meet
            case rel => exact ⟨by simp only [l1, l2, l3, l4.out, Bool.or_false, Bool.or_true, Bool.false_or, Bool.true_or], rfl⟩
          | false =>
            cases l5 : decide ((9223372036854775807 : Int) < (m.sweeps : Int)) with
            | true =>
              have l5' := of_decide_eq_true l5
              replace l5 := Lib.hid l5
              go_wp2_with fail
              go_meet
              case rel => exact ⟨by simp only [l1, l2, l3, l4, l5.out, Bool.or_false, Bool.or_true, Bool.false_or, Bool.true_or], rfl⟩
            | false =>
              cases l6 : decide ((16 : Int) < (m.seats.length : Int)) with
              | true =>
                have l6' := of_decide_eq_true l6
                replace l6 := Lib.hid l6
                go_wp2_with fail
                go_meet
                case rel => exact ⟨by simp only [l1, l2, l3, l4, l5, l6.out, Bool.or_false, Bool.or_true, Bool.false_or, Bool.true_or], rfl⟩
              | false =>
                go_wp2_with fail
                go_meet
                case rel => exact ⟨by simp only [l1, l2, l3, l4, l5, l6, Bool.or_false, Bool.or_true, Bool.false_or, Bool.true_or], rfl⟩
  case rest =>
  obtain ⟨rfl, rfl⟩ := hcut
  obtain ⟨B, hB⟩ : ∃ B, ((decide ((8 : Int) < (bs.length : Int))) || (decide ((4294967296 : Int) < (m.nv : Int))) || (((ns2 : Int) == 0)) || (decide ((4611686018427387904 : Int) < (ns2 : Int))) || (decide ((9223372036854775807 : Int) < (m.sweeps : Int))) || (decide ((16 : Int) < (m.seats.length : Int)))) = B := ⟨_, rfl⟩
  rw [hB]
  clear x0 x1 x2 x3 x4 x5
  cases B with
  | true =>
    have hno : Hid (false = true ↔ Pp) := Lib.hid (by
      rw [← hP.out]
      refine Iff.intro (fun h => by cases h) (fun h => ?_)
      have e1 := hns2.out
      have e2 := hlb.out
      have l1 : decide ((8 : Int) < (bs.length : Int)) = false := decide_eq_false (by have := h.lb; omega)
      have l2 : decide ((4294967296 : Int) < (m.nv : Int)) = false := decide_eq_false (by have := h.nv; omega)
      have l3 : ((ns2 : Int) == 0) = false := beq_eq_false_iff_ne.2 (by have := h.ns1; omega)
      have l4 : decide ((4611686018427387904 : Int) < (ns2 : Int)) = false := decide_eq_false (by have := h.ns2; omega)
      have l5 : decide ((9223372036854775807 : Int) < (m.sweeps : Int)) = false := decide_eq_false (by have := h.sw; omega)
      have l6 : decide ((16 : Int) < (m.seats.length : Int)) = false := decide_eq_false (by have := h.ls; omega)
      rw [l1, l2, l3, l4, l5, l6] at hB
      exact absurd hB (by simp))
    have hbF := Lib.hid hz1.out.bel
    clear hB hz1
    go_wp2_with fail
    go_ret
    exact ⟨false, rfl, hno, hbF⟩
  | false =>
    simp only [Bool.or_eq_false_iff] at hB
    obtain ⟨⟨⟨⟨⟨l1, l2⟩, l3⟩, l4⟩, l5⟩, l6⟩ := hB
    have hl8 : bs.length ≤ 8 := by have := of_decide_eq_false l1; omega
    have hfin : Hid ((∀ b ∈ m.boxes, BoxP b m.nv) → m.boxes.Pairwise (fun x y => bxltB x y = true) → m.boxes.Pairwise (fun x y => x.validity ≠ y.validity) → (∃ b ∈ m.boxes, b.name.data.toList = inboxL) → SeatsP m → RightP m) := Lib.hid (fun h1 h2 h3 h4 h5 => by
      have e1 := hns2.out
      have e2 := hlb.out
      have l1' := of_decide_eq_false l1
      have l2' := of_decide_eq_false l2
      have l3' := beq_eq_false_iff_ne.1 l3
      have l4' := of_decide_eq_false l4
      have l5' := of_decide_eq_false l5
      have l6' := of_decide_eq_false l6
      exact ⟨by omega, by omega, by omega, by omega, by omega, by omega, h1, h2, h3, h4, h5⟩)
    clear l1 l2 l3 l4 l5 l6
    go_wp2_with fail
    go_loopw [3, 4] (fun v3 v4 wr => ∃ i cnt : Nat, v4 = .int .i64 i ∧ v3 = .int .i64 cnt ∧ i ≤ bs.length ∧ cnt ≤ i ∧ Hid (BUp m i cnt) ∧ Hid (Zoo W wr [boxT MB [.slice ab bs.length cb, .int .u64 m.nv, .slice ah m.homes.length ch, .slice as_ m.seats.length cs, .int .u64 m.ns, .int .u64 m.sweeps].toArray 47])) (fun _ v4 _ => bs.length - (intOf v4).toNat)
    case atStart => exact ⟨0, 0, rfl, rfl, Nat.zero_le _, Nat.zero_le _, Lib.hid ⟨fun x hx => by simp at hx, by simp, by simp, by simp⟩, hz1⟩
    case round =>
      clear hz1
      obtain ⟨i, cnt, rfl, rfl, hi, hcnt, hup, hz⟩ := hrel
      generalize wr = wo at *
      obtain ⟨hbM, -⟩ := hz.out.box 0 rfl
      have x0 : wo.cell? ⟨MB, 0, none⟩ = some (.slice ab bs.length cb) := box_cell hbM 0
      have x1 : wo.cell? ⟨MB, 1, none⟩ = some (.int .u64 m.nv) := box_cell hbM 1
      have x2 : wo.cell? ⟨MB, 2, none⟩ = some (.slice ah m.homes.length ch) := box_cell hbM 2
      have x3 : wo.cell? ⟨MB, 3, none⟩ = some (.slice as_ m.seats.length cs) := box_cell hbM 3
      have x4 : wo.cell? ⟨MB, 4, none⟩ = some (.int .u64 m.ns) := box_cell hbM 4
      have x5 : wo.cell? ⟨MB, 5, none⟩ = some (.int .u64 m.sweeps) := box_cell hbM 5
      by_cases hlt : i < bs.length
      · have hin := hib0.out wo hz.out.bel
        obtain ⟨b, bo, cap, hv, -, hblt, hcells⟩ := bxT.rd_cells hin.1 hlt
        injection hv with hv1 hv2 hv3
        subst hv1 hv3
        have him : i < m.boxes.length := by have := hlb.out; omega
        have hmx : m.boxes[i] = bs[i].b := by
          have h1 := idx_map hbs.out hlt
          rw [List.getElem?_eq_getElem him] at h1
          exact Option.some.inj h1
        have hxm : bs[i].b ∈ m.boxes := by rw [← hmx]; exact List.getElem_mem him
        have hbc : ∀ w', Below W.heap.size W w' → ∀ j (hj : j < bs.length), ∀ r u, (bxCells bs[j])[r]? = some u → w'.cell? ⟨b, bo + (j * 5 + r), none⟩ = some u := fun w' hw j hj r u hu => by
          obtain ⟨b', bo', cap', hv', -, -, hc'⟩ := bxT.rd_cells (hib0.out w' hw).1 hj
          injection hv' with g1 g2 g3
          injection g1 with g1
          injection g1 with g1 g1b
          subst g1 g1b
          exact hc' r u hu
        have hneed : RightP m → BoxP bs[i].b m.nv ∧ ∀ k (hk : k < m.boxes.length), k < i → bxltB m.boxes[k] m.boxes[i] = true ∧ m.boxes[k].validity ≠ m.boxes[i].validity := fun h => ⟨h.boxes _ hxm, fun k hk hki => ⟨List.pairwise_iff_getElem.1 h.names k i hk him hki, List.pairwise_iff_getElem.1 h.vals k i hk him hki⟩⟩
        have hstep := fun h1 h2 => hup.out.step him h1 h2
        rw [hmx] at hneed hstep
        have hbox := refBoxR_any (W := wo.drew) bs[i] m.nv ((hib0.out wo.drew (hz.out.drew).bel).2 _ (List.getElem_mem hlt)) (hsz.out.nm _ hxm) (fun z hz => hsz.out.sz.flags _ hxm z.x (List.mem_map_of_mem (f := LtV.x) hz)) (fun z hz => hsz.out.fs _ hxm z.x (List.mem_map_of_mem (f := LtV.x) hz))
        have hci := fun w' hw => hbc w' hw i hlt
        obtain ⟨x, hx⟩ : ∃ x, bs[i] = x := ⟨_, rfl⟩
        rw [hx] at hneed hstep hbox hci
        replace hbox : Hid (Calls Try.prog 50 #[.agg #[.string x.name, .int .u64 x.validity, .int .u64 x.next, .int .u64 x.high, .slice x.a x.rows.length x.c], .int .u64 m.nv] wo.drew (YesNo (BoxP x.b m.nv) wo.drew)) := Lib.hid hbox
        have hcx : Hid (∀ w', Below W.heap.size W w' → w'.cell? ⟨b, bo + i * 5, none⟩ = some (.string x.name) ∧ w'.cell? ⟨b, bo + i * 5 + 1, none⟩ = some (.int .u64 x.validity) ∧ w'.cell? ⟨b, bo + i * 5 + 2, none⟩ = some (.int .u64 x.next) ∧ w'.cell? ⟨b, bo + i * 5 + 3, none⟩ = some (.int .u64 x.high) ∧ w'.cell? ⟨b, bo + i * 5 + 4, none⟩ = some (.slice x.a x.rows.length x.c)) := Lib.hid (fun w' hw => ⟨hci w' hw 0 _ rfl, hci w' hw 1 _ rfl, hci w' hw 2 _ rfl, hci w' hw 3 _ rfl, hci w' hw 4 _ rfl⟩)
        have hi0 : (0 : Int) ≤ (i : Int) := by omega
        have hi1 : (i : Int) < (bs.length : Int) := by omega
        replace hneed := Lib.hid hneed
        replace hstep := Lib.hid hstep
        replace hbc := Lib.hid hbc
        replace hmx := Lib.hid hmx
        replace hx := Lib.hid hx
        clear hcells hin hci hxm hup hbM
        go_wp2_with fail
        clear x0 x1 x2 x3 x4 x5
        have hzd := hz.out.drew
        obtain ⟨c0, c1, c2, c3, c4⟩ := hcx.out _ hzd.bel
        obtain ⟨hbM, -⟩ := hzd.box 0 rfl
        have x0 : wo.drew.cell? ⟨MB, 0, none⟩ = some (.slice (some ⟨b, bo, none⟩) bs.length cb) := box_cell hbM 0
        have x1 : wo.drew.cell? ⟨MB, 1, none⟩ = some (.int .u64 m.nv) := box_cell hbM 1
        go_cut [51] (fun v51 wx => ∃ B, v51 = .bool (!B) ∧ Hid (B = true ↔ BoxP x.b m.nv) ∧ Hid (Zoo W wx [boxT MB [.slice (some ⟨b, bo, none⟩) bs.length cb, .int .u64 m.nv, .slice ah m.homes.length ch, .slice as_ m.seats.length cs, .int .u64 m.ns, .int .u64 m.sweeps].toArray 47]))
        case first =>
          refine wp_region_hd (fun w' => w'.cell? ⟨MB, 0, none⟩ = some (.slice (some ⟨b, bo, none⟩) bs.length cb) ∧ w'.cell? ⟨MB, 1, none⟩ = some (.int .u64 m.nv) ∧ w'.cell? ⟨b, bo + i * 5, none⟩ = some (.string x.name) ∧ w'.cell? ⟨b, bo + i * 5 + 1, none⟩ = some (.int .u64 x.validity) ∧ w'.cell? ⟨b, bo + i * 5 + 2, none⟩ = some (.int .u64 x.next) ∧ w'.cell? ⟨b, bo + i * 5 + 3, none⟩ = some (.int .u64 x.high) ∧ w'.cell? ⟨b, bo + i * 5 + 4, none⟩ = some (.slice x.a x.rows.length x.c)) 8 1 (by kernel_rfl) rfl ⟨by kernel_rfl, by kernel_rfl, by kernel_rfl, by decide⟩ ⟨x0, x1, c0, c1, c2, c3, c4⟩ (fun hok hS0 => ?_)
          generalize wo.drew = Wd at *
          refine Hd.take (i := 0) (v := ?tv10) hok rfl (by kernel_rfl) (fun _ _ _ h => h) (Or.inl ⟨by rfl, ?ty10⟩) (by assumption) ?tr10
          case ty10 => (intro w hSw; (try dsimp only at hSw); go_simp; (try with_reducible rfl))
          try simp only [List.getElem_toArray, List.getElem_cons_succ, List.getElem_cons_zero, Act.put, List.setIfInBounds_toArray, List.set_cons_zero, List.set_cons_succ]
          refine Hd.take (i := 1) (v := ?tv11) hok rfl (by kernel_rfl) (fun _ _ _ h => h) (Or.inl ⟨by rfl, ?ty11⟩) (by assumption) ?tr11
          case ty11 => (intro w hSw; (try dsimp only at hSw); go_simp; (try with_reducible rfl))
          try simp only [List.getElem_toArray, List.getElem_cons_succ, List.getElem_cons_zero, Act.put, List.setIfInBounds_toArray, List.set_cons_zero, List.set_cons_succ]
          refine Hd.take (i := 2) (v := ?tv12) hok rfl (by kernel_rfl) (fun _ _ _ h => h) (Or.inl ⟨by rfl, ?ty12⟩) (by assumption) ?tr12
          case ty12 => (intro w hSw; (try dsimp only at hSw); go_simp; (try with_reducible rfl))
          try simp only [List.getElem_toArray, List.getElem_cons_succ, List.getElem_cons_zero, Act.put, List.setIfInBounds_toArray, List.set_cons_zero, List.set_cons_succ]
          refine Hd.take (i := 3) (v := ?tv13) hok rfl (by kernel_rfl) (fun _ _ _ h => h) (Or.inl ⟨by rfl, ?ty13⟩) (by assumption) ?tr13
          case ty13 => (intro w hSw; (try dsimp only at hSw); go_simp; (try with_reducible rfl))
          try simp only [List.getElem_toArray, List.getElem_cons_succ, List.getElem_cons_zero, Act.put, List.setIfInBounds_toArray, List.set_cons_zero, List.set_cons_succ]
          refine Hd.take (i := 4) (v := ?tv14) hok rfl (by kernel_rfl) (fun _ _ _ h => h) (Or.inl ⟨by rfl, ?ty14⟩) (by assumption) ?tr14
          case ty14 => (intro w hSw; (try dsimp only at hSw); go_simp; (try with_reducible rfl))
          try simp only [List.getElem_toArray, List.getElem_cons_succ, List.getElem_cons_zero, Act.put, List.setIfInBounds_toArray, List.set_cons_zero, List.set_cons_succ]
          refine Hd.take (i := 5) (v := ?tv15) hok rfl (by kernel_rfl) (fun _ _ _ h => h) (Or.inl ⟨by rfl, ?ty15⟩) (by assumption) ?tr15
          case ty15 => (intro w hSw; (try dsimp only at hSw); go_simp; (try with_reducible rfl))
          try simp only [List.getElem_toArray, List.getElem_cons_succ, List.getElem_cons_zero, Act.put, List.setIfInBounds_toArray, List.set_cons_zero, List.set_cons_succ]
          refine Hd.take (i := 6) (v := ?tv16) hok rfl (by kernel_rfl) (fun _ _ _ h => h) (Or.inl ⟨by rfl, ?ty16⟩) (by assumption) ?tr16
          case ty16 => (intro w hSw; (try dsimp only at hSw); go_simp; (try with_reducible rfl))
          try simp only [List.getElem_toArray, List.getElem_cons_succ, List.getElem_cons_zero, Act.put, List.setIfInBounds_toArray, List.set_cons_zero, List.set_cons_succ]
          refine Hd.one (i := 7) rfl (by kernel_rfl) (fun K hK => ?_)
          go_simp
          refine hbox.out.mono ?_
          rintro e w5 ⟨B, rfl, hB, hb5⟩
          dsimp only
          have hz5 := hzd.below hb5.out
          obtain ⟨hbM, -⟩ := hz5.box 0 rfl
          refine hK _ _ ⟨box_cell hbM 0, box_cell hbM 1, hcx.out _ hz5.bel⟩ ?_
          clear hK K
          try simp only [List.getElem_toArray, List.getElem_cons_succ, List.getElem_cons_zero, Act.put, List.setIfInBounds_toArray, List.set_cons_zero, List.set_cons_succ]
          refine Hd.done (by kernel_rfl) ?_
          simp only [List.drop_succ_cons, List.drop_zero]
          replace hz5 := Lib.hid hz5
          clear hok hS0 c0 c1 c2 c3 c4 x0 x1 hbox hzd hbM hb5
          go_wp2_with fail
          go_meet
          case rel => exact ⟨B, rfl, hB, hz5⟩
        case rest =>
        clear c0 c1 c2 c3 c4 x0 x1 hbox hzd hz hbM
        obtain ⟨B, rfl, hB, hz⟩ := hcut
        cases B with
        | false =>
          have hno : Hid (false = true ↔ Pp) := Lib.hid (by
            rw [← hP.out]
            exact Iff.intro (fun h => by cases h) (fun h => hB.out.2 (hneed.out h).1))
          have hbF := Lib.hid hz.out.bel
          clear hneed hstep hbc hcx hB
          go_wp2_with fail
          go_ret
          exact ⟨false, rfl, hno, hbF⟩
        | true =>
          have hBx := Lib.hid (hB.out.1 rfl)
          clear hB
          generalize wc = wq at *
          go_wp2_with fail
          go_loopw [5] (fun v5 wr => ∃ k : Nat, v5 = .int .i64 k ∧ k ≤ i ∧ Hid (∀ k' (h : k' < m.boxes.length), k' < k → bxltB m.boxes[k'] x.b = true ∧ m.boxes[k'].validity ≠ x.b.validity) ∧ Hid (Zoo W wr [boxT MB [.slice (some ⟨b, bo, none⟩) bs.length cb, .int .u64 m.nv, .slice ah m.homes.length ch, .slice as_ m.seats.length cs, .int .u64 m.ns, .int .u64 m.sweeps].toArray 47])) (fun v5 _ => i - (intOf v5).toNat)
          case atStart => exact ⟨0, rfl, Nat.zero_le _, Lib.hid (fun k' h hk => by omega), hz⟩
          case round =>
            clear hz
            obtain ⟨k, rfl, hk, hno, hz⟩ := hrel
            obtain ⟨hbM, -⟩ := hz.out.box 0 rfl
            have x0 : wr.cell? ⟨MB, 0, none⟩ = some (.slice (some ⟨b, bo, none⟩) bs.length cb) := box_cell hbM 0
            obtain ⟨c0, c1, -, -, -⟩ := hcx.out wr hz.out.bel
            clear hbM
            by_cases hki : k < i
            · have hkl : k < bs.length := by omega
              have hkm : k < m.boxes.length := by omega
              have hmk : m.boxes[k] = bs[k].b := by
                have h1 := idx_map hbs.out hkl
                rw [List.getElem?_eq_getElem hkm] at h1
                exact Option.some.inj h1
              have d0 := hbc.out wr hz.out.bel k hkl 0 _ rfl
              have d1 := hbc.out wr hz.out.bel k hkl 1 _ rfl
              have hno2 : bxltB bs[k].b x.b = true ∧ bs[k].b.validity ≠ x.b.validity → ∀ k' (h : k' < m.boxes.length), k' < k + 1 → bxltB m.boxes[k'] x.b = true ∧ m.boxes[k'].validity ≠ x.b.validity := fun h k' hk' hkk => by
                by_cases e : k' = k
                · subst e; rw [hmk]; exact h
                · exact hno.out k' hk' (by omega)
              have hbad : ¬ (bxltB bs[k].b x.b = true ∧ bs[k].b.validity ≠ x.b.validity) → ¬ Pp := fun h hp => by
                rw [← hP.out] at hp
                have := (hneed.out hp).2 k hkm hki
                rw [hmk] at this
                exact h this
              obtain ⟨z, hzz⟩ : ∃ z, bs[k] = z := ⟨_, rfl⟩
              rw [hzz] at d0 d1 hno2 hbad
              replace d0 : wr.cell? ⟨b, bo + k * 5, none⟩ = some (.string z.name) := d0
              replace d1 : wr.cell? ⟨b, bo + k * 5 + 1, none⟩ = some (.int .u64 z.validity) := d1
              have hk0 : (0 : Int) ≤ (k : Int) := by omega
              have hk1 : (k : Int) < (i : Int) := by omega
              have hk2 : (k : Int) < (bs.length : Int) := by omega
              have hlt2 : Hid (Op.bytesLess z.name.toList x.name.toList = bxltB z.b x.b) := Lib.hid (by rw [bytesLess_eq, ByteArray.toList_eq, ByteArray.toList_eq]; rfl)
              replace hno2 := Lib.hid hno2
              replace hbad := Lib.hid hbad
              clear hmk hzz hno
              cases c1x : Op.bytesLess z.name.toList x.name.toList with
              | false =>
                have hn := Lib.hid (hbad.out (fun h => by rw [← hlt2.out, c1x] at h; cases h.1))
                have hbF := hz.out.bel
                clear hno2 hbad hlt2
                go_wp2_with fail
                go_quiet (fail)
                go_wp2_with fail
                go_ret
                exact ⟨false, rfl, Lib.hid (Iff.intro (fun h => by cases h) (fun h => absurd h hn.out)), Lib.hid (below_drewN hbF nq)⟩
              | true =>
                cases c2x : ((z.validity : Int) == (x.validity : Int)) with
                | true =>
                  have hn := Lib.hid (hbad.out (fun h => h.2 (by have := eq_of_beq c2x; show z.validity = x.validity; omega)))
                  have hbF := hz.out.bel
                  clear hno2 hbad hlt2
                  go_wp2_with fail
                  go_quiet (fail)
                  go_wp2_with fail
                  go_ret
                  exact ⟨false, rfl, Lib.hid (Iff.intro (fun h => by cases h) (fun h => absurd h hn.out)), Lib.hid (below_drewN hbF nq)⟩
                | false =>
                  have hn := Lib.hid (hno2.out ⟨by rw [← hlt2.out]; exact c1x, fun h => by rw [show z.validity = x.validity from h, beq_self_eq_true] at c2x; cases c2x⟩)
                  clear hno2 hbad hlt2
                  go_wp2_with fail
                  go_quiet (fail)
                  go_wp2_with fail
                  go_roundw
                  case rel => exact ⟨k + 1, by go_num, by omega, hn, Lib.hid (hz.out.below (below_drewN (Below.refl _ _) nq))⟩
                  case measure => simp [intOf] <;> omega
            · have hk1 : (i : Int) ≤ (k : Int) := by omega
              have hk2 : ¬ ((k : Int) < (i : Int)) := by omega
              have hup2 := Lib.hid (hstep.out hBx.out (fun k' hk' hki' => hno.out k' hk' (by omega)))
              have hib2 : Hid (isInbox x.b = (x.name.toList == [73, 78, 66, 79, 88])) := Lib.hid (by unfold isInbox; rw [ByteArray.toList_eq]; rfl)
              clear hno hstep hneed hbc
              cases hb : (x.name.toList == [73, 78, 66, 79, 88]) with
              | true =>
                have hupF : Hid (BUp m (i + 1) (cnt + 1)) := Lib.hid (by have := hup2.out; rw [hib2.out, hb] at this; exact this)
                clear hup2 hib2
                go_wp2_with fail
                go_roundw
                case rel => exact ⟨i + 1, cnt + 1, by go_num, by go_num, by omega, by omega, hupF, hz⟩
                case measure => simp [intOf] <;> omega
              | false =>
                have hupF : Hid (BUp m (i + 1) cnt) := Lib.hid (by have := hup2.out; rw [hib2.out, hb] at this; exact this)
                clear hup2 hib2
                go_wp2_with fail
                go_roundw
                case rel => exact ⟨i + 1, cnt, by go_num, rfl, by omega, by omega, hupF, hz⟩
                case measure => simp [intOf] <;> omega
      · have hi1 : (bs.length : Int) ≤ (i : Int) := by omega
        have hi2 : ¬ ((i : Int) < (bs.length : Int)) := by omega
        have hie : i = m.boxes.length := by have := hlb.out; omega
        have hseated : Hid (Calls Try.prog 51 #[.agg #[.slice ab bs.length cb, .int .u64 m.nv, .slice ah m.homes.length ch, .slice as_ m.seats.length cs, .int .u64 m.ns, .int .u64 m.sweeps]] wo (YesNo (SeatsP m) wo)) := Lib.hid (refSeated_any _ (hin0.out wo hz.out.bel) hsz.out.sz.homes hsz.out.sz.seats)
        have hall : Hid ((∀ b ∈ m.boxes, BoxP b m.nv) ∧ m.boxes.Pairwise (fun x y => bxltB x y = true) ∧ m.boxes.Pairwise (fun x y => x.validity ≠ y.validity) ∧ cnt = (m.boxes.filter isInbox).length) := Lib.hid (by
          obtain ⟨g1, g2, g3, g4⟩ := hup.out
          rw [hie, List.take_length] at g1 g2 g3 g4
          exact ⟨g1, g2, g3, g4⟩)
        have hbF := Lib.hid hz.out.bel
        clear hie hup hz hbM
        by_cases hc : cnt = 1
        · have hc' : ((cnt : Int) == 1) = true := beq_iff_eq.2 (by omega)
          replace hc := Lib.hid hc
          go_wp2_with fail
          refine hseated.out.mono ?_
          rintro e w5 ⟨B, rfl, hB, hb5⟩
          have hbG := Lib.hid (hbF.out.trans (hb5.out.mono hbF.out.size))
          have hyes : Hid (B = true ↔ Pp) := Lib.hid (by
            rw [← hP.out, hB.out]
            refine Iff.intro (fun h => hfin.out hall.out.1 hall.out.2.1 hall.out.2.2.1 ((one_inbox hall.out.2.1).1 (by rw [← hall.out.2.2.2]; exact hc.out)) h) (fun h => h.seated))
          clear hB hb5 hseated hbF
          go_wp2_with fail
          go_ret
          exact ⟨B, rfl, hyes, hbG⟩
        · have hc' : ((cnt : Int) == 1) = false := beq_eq_false_iff_ne.2 (by omega)
          have hno : Hid (false = true ↔ Pp) := Lib.hid (by
            rw [← hP.out]
            refine Iff.intro (fun h => by cases h) (fun h => ?_)
            have := (one_inbox hall.out.2.1).2 h.inbox
            rw [← hall.out.2.2.2] at this
            exact absurd this hc)
          clear hc hseated
          go_wp2_with fail
          go_ret
          exact ⟨false, rfl, hno, hbF⟩
end Go.Proofs.Ytcnebfmlelcliaa
