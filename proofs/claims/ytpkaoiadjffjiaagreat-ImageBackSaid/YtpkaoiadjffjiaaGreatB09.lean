/- mail's seatsRight, asked about a right state: walked. (written by tools/gen_MnJ.py) mail's seatsRight, asked about any state: the exact answer. (written by tools/gen_ImS.py) -/
import Derived.Test.YtpkaoiadjffjiaaGreatB08
import Derived.Test.YtpkaoiadjffjiaaGreatB06
import Derived.Test.YtpkaoiadjffjiaaGreatB07
namespace Go.Proofs.YtpkaoiadjffjiaaGreat
set_option linter.unusedSimpArgs false
open Go.RowKit
attribute [local go_sem ↓] Go.wp_at_zero Go.wp_at_succ

theorem MlIn.rows {W : World} {m : Ml} {ab ah as_ : Option Addr} {nb cb nv nh ch ns cs nse sw : Nat} (h : MlIn W (.agg #[.slice ab nb cb, .int .u64 nv, .slice ah nh ch, .slice as_ ns cs, .int .u64 nse, .int .u64 sw]) m) : HmsIn W (.slice ah nh ch) m.homes ∧ StsIn W (.slice as_ ns cs) m.seats := by
  obtain ⟨vb, vh, vs, bs, e, hbs, hib, hih, his⟩ := h
  unfold mlVal at e
  have e1 := congrArg (fun v => match v with | .agg a => (a[2]?, a[3]?) | _ => (none, none)) e
  simp at e1
  rw [e1.1, e1.2]
  exact ⟨hih, his⟩
theorem hm_at {W : World} {v : Value} {l : List Hm} (h : HmsIn W v l) {j : Nat} (hj : j < l.length) : ∃ b bo cap, v = .slice (some ⟨b, bo, none⟩) l.length cap ∧ ∀ W', Below W.heap.size W W' → W'.cell? ⟨b, bo + j * 3, none⟩ = some (.int .i64 l[j].node) ∧ W'.cell? ⟨b, bo + j * 3 + 1, none⟩ = some (.int .u64 l[j].life) ∧ W'.cell? ⟨b, bo + j * 3 + 2, none⟩ = some (.int .u64 l[j].try_) := by
  obtain ⟨b, bo, cap, hv, -, hbl, hc⟩ := hmT.rd_cells h hj
  refine ⟨b, bo, cap, hv, fun W' hb => ?_⟩
  have hk : ∀ r u, (hmT.enc l[j])[r]? = some u → W'.cell? ⟨b, bo + j * 3 + r, none⟩ = some u := fun r u hu => by
    rw [Nat.add_assoc]
    exact (hb.cell (p := ⟨b, bo + (j * 3 + r), none⟩) hbl).trans (hc r u hu)
  exact ⟨hk 0 _ rfl, hk 1 _ rfl, hk 2 _ rfl⟩
theorem st_at {W : World} {v : Value} {l : List St} (h : StsIn W v l) {j : Nat} (hj : j < l.length) : ∃ b bo cap, v = .slice (some ⟨b, bo, none⟩) l.length cap ∧ ∀ W', Below W.heap.size W W' → W'.cell? ⟨b, bo + j * 5, none⟩ = some (.int .u64 l[j].session) ∧ W'.cell? ⟨b, bo + j * 5 + 1, none⟩ = some (.int .u64 l[j].last) ∧ W'.cell? ⟨b, bo + j * 5 + 2, none⟩ = some (.int .i64 l[j].node) ∧ W'.cell? ⟨b, bo + j * 5 + 3, none⟩ = some (.int .u64 l[j].life) ∧ W'.cell? ⟨b, bo + j * 5 + 4, none⟩ = some (.int .u64 l[j].try_) := by
  obtain ⟨b, bo, cap, hv, -, hbl, hc⟩ := stT.rd_cells h hj
  refine ⟨b, bo, cap, hv, fun W' hb => ?_⟩
  have hk : ∀ r u, (stT.enc l[j])[r]? = some u → W'.cell? ⟨b, bo + j * 5 + r, none⟩ = some u := fun r u hu => by
    rw [Nat.add_assoc]
    exact (hb.cell (p := ⟨b, bo + (j * 5 + r), none⟩) hbl).trans (hc r u hu)
  exact ⟨hk 0 _ rfl, hk 1 _ rfl, hk 2 _ rfl, hk 3 _ rfl, hk 4 _ rfl⟩
/-- the first i of a row -/
theorem sts_take {W : World} {a : Option Addr} {n c : Nat} {l : List St} (h : StsIn W (.slice a n c) l) {i : Nat} (hi : i ≤ l.length) : StsIn W (.slice a (l.take i).length c) (l.take i) := by
  obtain ⟨a', c', hv, h⟩ := h
  injection hv with e1 e2 e3
  subst e1 e3
  refine ⟨a, c, rfl, ?_⟩
  rcases h with h | ⟨b, o, ha, hb, hle, hc⟩
  · left; rw [List.length_take]; omega
  · refine .inr ⟨b, o, ha, hb, by rw [List.length_take]; omega, fun j u hu => hc j u ?_⟩
    have hsp : stT.cells l = stT.cells (l.take i) ++ stT.cells (l.drop i) := by rw [← stT.cells_app, List.take_append_drop]
    rw [hsp, List.getElem?_append_left (List.getElem?_eq_some_iff.1 hu).1]
    exact hu
set_option maxRecDepth 100000 in
set_option maxHeartbeats 16000000 in
theorem seatsRight_yes {W : World} (v : Value) {m : Ml} (hin : MlIn W v m) (hr : RightP m) : Calls Tryz.prog 46 #[v] W fun e w' => e = .returned (.bool true) ∧ Hid (Below W.heap.size W w') := by
  obtain ⟨ab, cb, nb, ah, ch, as_, cs, rfl⟩ := hin.out_
  have hz1 := (Zoo.nil W).newBox [.slice ab nb cb, .int .u64 m.nv, .slice ah m.homes.length ch, .slice as_ m.seats.length cs, .int .u64 m.ns, .int .u64 m.sweeps].toArray 27
  have hih0 : Hid (∀ w', Below W.heap.size W w' → HmsIn w' (.slice ah m.homes.length ch) m.homes) := Lib.hid (fun w' h => (hin.below h).rows.1)
  have his0 : Hid (∀ w', Below W.heap.size W w' → StsIn w' (.slice as_ m.seats.length cs) m.seats) := Lib.hid (fun w' h => (hin.below h).rows.2)
  generalize hMB : W.heap.size = MB at hz1
  generalize hWa : (W.alloc (.cells [.slice ab nb cb, .int .u64 m.nv, .slice ah m.homes.length ch, .slice as_ m.seats.length cs, .int .u64 m.ns, .int .u64 m.sweeps].toArray 27)) = Wa at hz1
  obtain ⟨hbB, -⟩ := hz1.box 0 rfl
  have x2 : Wa.cell? ⟨MB, 2, none⟩ = some (.slice ah m.homes.length ch) := box_cell hbB 2
  have l5 := hr.homes5
  have l16 := hr.ls
  replace hr := Lib.hid hr
  replace hz1 := Lib.hid hz1
  clear hin hbB
  go_enter Tryz.func46, Tryz.ntmps46
  go_wp2_with fail
  clear x2
  go_loopw [11] (fun v11 wr => ∃ j : Nat, v11 = .int .i64 j ∧ j ≤ m.homes.length ∧ Hid (Zoo W wr [boxT MB [.slice ab nb cb, .int .u64 m.nv, .slice ah m.homes.length ch, .slice as_ m.seats.length cs, .int .u64 m.ns, .int .u64 m.sweeps].toArray 27])) (fun v11 _ => m.homes.length - (intOf v11).toNat)
  case atStart => exact ⟨0, rfl, Nat.zero_le _, hz1⟩
  case round =>
    clear hz1
    obtain ⟨j, rfl, hj, hz⟩ := hrel
    obtain ⟨hbB, -⟩ := hz.out.box 0 rfl
    by_cases hlt : j < m.homes.length
    · have hin1 := hih0.out wr hz.out.bel
      obtain ⟨b, bo, cap, hv, hc⟩ := hm_at hin1 hlt
      injection hv with hv1 hv2 hv3
      subst hv1 hv3
      have hP := hr.out.seated.homes _ (List.getElem_mem hlt)
      have hprev : 0 < j → ∃ u : Int, (∀ W', Below wr.heap.size wr W' → W'.cell? ⟨b, bo + (j - 1) * 3, none⟩ = some (.int .i64 u)) ∧ u < m.homes[j].node := by
        intro hjp
        have hkl : j - 1 < m.homes.length := by omega
        obtain ⟨b', bo', cap', hv', hc'⟩ := hm_at hin1 hkl
        injection hv' with h1 h2 h3
        injection h1 with h1
        injection h1 with h1 h4
        subst h1 h4
        exact ⟨m.homes[j - 1].node, fun W' hb => (hc' W' hb).1, List.pairwise_iff_getElem.1 hr.out.seated.hup (j - 1) j hkl hlt (by omega)⟩
      obtain ⟨z, hz'⟩ : ∃ z, m.homes[j] = z := ⟨_, rfl⟩
      rw [hz'] at hc hP hprev
      obtain ⟨r0, r1, r2⟩ := hc wr (Below.refl _ _)
      have q1 : decide (z.node < 1) = false := decide_eq_false (by have := hP.n1; omega)
      have q2 : decide (5 < z.node) = false := decide_eq_false (by have := hP.n2; omega)
      have q3 : ((z.life : Int) == 0) = false := by have := hP.l; rw [beq_eq_false_iff_ne]; omega
      have q4 : ((z.try_ : Int) == 0) = false := by have := hP.t; rw [beq_eq_false_iff_ne]; omega
      have hj0 : (0 : Int) ≤ (j : Int) := by omega
      have hj1 : (j : Int) < (m.homes.length : Int) := by omega
      replace hprev := Lib.hid hprev
      have hzb := Lib.hid (hz.out.newBox [.int .i64 z.node, .int .u64 z.life, .int .u64 z.try_].toArray 51)
      have hbw := Lib.hid ((Below.refl wr.heap.size wr).alloc (Nat.le_refl _) (.cells [.int .i64 z.node, .int .u64 z.life, .int .u64 z.try_].toArray 51))
      clear hc hP hin1 hz' hbB
      go_upto_region 4 with fail
      generalize hLbE : wr.heap.size = Lb at hzb hprev hbw ⊢
      generalize (wr.alloc (.cells [.int .i64 z.node, .int .u64 z.life, .int .u64 z.try_].toArray 51)) = wl at hzb hbw ⊢
      clear r0 r1 r2
      obtain ⟨hbL, -⟩ := hzb.out.box 0 rfl
      obtain ⟨hbB, -⟩ := hzb.out.box 1 rfl
      have y0 : wl.cell? ⟨Lb, 0, none⟩ = some (.int .i64 z.node) := box_cell hbL 0
      have y1 : wl.cell? ⟨Lb, 1, none⟩ = some (.int .u64 z.life) := box_cell hbL 1
      have y2 : wl.cell? ⟨Lb, 2, none⟩ = some (.int .u64 z.try_) := box_cell hbL 2
      have x2 : wl.cell? ⟨MB, 2, none⟩ = some (.slice (some ⟨b, bo, none⟩) m.homes.length ch) := box_cell hbB 2
      have hzF := Lib.hid (hzb.out.sub (L' := [boxT MB [.slice ab nb cb, .int .u64 m.nv, .slice (some ⟨b, bo, none⟩) m.homes.length ch, .slice as_ m.seats.length cs, .int .u64 m.ns, .int .u64 m.sweeps].toArray 27]) (List.Sublist.cons _ (List.Sublist.refl _)))
      clear hbL hbB hzb
      rcases Nat.eq_zero_or_pos j with rfl | hjp
      · clear hprev hbw
        go_wp2_with fail
        go_quiet (fail)
        go_wp2_with fail
        go_roundw
        case rel => exact ⟨0 + 1, by go_num, by omega, Lib.hid (hzF.out.below (below_drewN (Below.refl _ _) nq))⟩
        case measure => simp [intOf] <;> omega
      · obtain ⟨u, hpc, hpu⟩ := hprev.out hjp
        have p0 := hpc wl hbw.out
        have hu1 : decide (z.node ≤ u) = false := decide_eq_false (by omega)
        have hp1 : (0 : Int) < (j : Int) := by omega
        have hp2 : (0 : Int) ≤ (j : Int) - 1 := by omega
        have hp3 : (j : Int) - 1 < (m.homes.length : Int) := by omega
        have hp4 : IntKind.i64.wrap ((j : Int) - 1) = (j : Int) - 1 := IntWalk.i64_in _ (by omega)
        have hp5 : ((j : Int) - 1).toNat = j - 1 := by omega
        have hp6 : (1 : Int) ≤ (j : Int) := by omega
        clear hprev hpc hpu hbw
        go_wp2_with fail
        go_quiet (fail)
        go_wp2_with fail
        go_roundw
        case rel => exact ⟨j + 1, by go_num, by omega, Lib.hid (hzF.out.below (below_drewN (Below.refl _ _) nq))⟩
        case measure => simp [intOf] <;> omega
    · obtain rfl : j = m.homes.length := by omega
      have x3 : wr.cell? ⟨MB, 3, none⟩ = some (.slice as_ m.seats.length cs) := box_cell hbB 3
      clear hbB
      go_wp2_with fail
      clear x3
      go_loopw [54] (fun v54 wr => ∃ j : Nat, v54 = .int .i64 j ∧ j ≤ m.seats.length ∧ Hid (Zoo W wr [boxT MB [.slice ab nb cb, .int .u64 m.nv, .slice ah m.homes.length ch, .slice as_ m.seats.length cs, .int .u64 m.ns, .int .u64 m.sweeps].toArray 27])) (fun v54 _ => m.seats.length - (intOf v54).toNat)
      case atStart => exact ⟨0, rfl, Nat.zero_le _, hz⟩
      case round =>
        clear hz
        obtain ⟨j, rfl, hj, hz⟩ := hrel
        obtain ⟨hbB, -⟩ := hz.out.box 0 rfl
        by_cases hlt : j < m.seats.length
        · have hin1 := his0.out wr hz.out.bel
          obtain ⟨b, bo, cap, hv, hc⟩ := st_at hin1 hlt
          injection hv with hv1 hv2 hv3
          subst hv1 hv3
          have hP := hr.out.seated.seats _ (List.getElem_mem hlt)
          have hprev : 0 < j → ∃ u : Nat, (∀ W', Below wr.heap.size wr W' → W'.cell? ⟨b, bo + (j - 1) * 5, none⟩ = some (.int .u64 u)) ∧ u < m.seats[j].session := by
            intro hjp
            have hkl : j - 1 < m.seats.length := by omega
            obtain ⟨b', bo', cap', hv', hc'⟩ := st_at hin1 hkl
            injection hv' with h1 h2 h3
            injection h1 with h1
            injection h1 with h1 h4
            subst h1 h4
            exact ⟨m.seats[j - 1].session, fun W' hb => (hc' W' hb).1, List.pairwise_iff_getElem.1 hr.out.seated.sup (j - 1) j hkl hlt (by omega)⟩
          have htw : idxI (fun y : St => y.node == m.seats[j].node && y.try_ == m.seats[j].try_) (m.seats.take j) = -1 := idxI_none (fun k hk => by
            rw [List.length_take] at hk
            rw [List.getElem_take]
            have := List.pairwise_iff_getElem.1 hr.out.seated.twin k j (by omega) hlt (by omega)
            cases h1 : (m.seats[k].node == m.seats[j].node) with
            | false => rfl
            | true =>
              cases h2 : (m.seats[k].try_ == m.seats[j].try_) with
              | false => rfl
              | true => exact absurd ⟨eq_of_beq h1, eq_of_beq h2⟩ this)
          have hhome : ∃ (h : Nat) (hh : h < m.homes.length), idxI (fun y : Hm => y.node == m.seats[j].node) m.homes = (h : Int) ∧ m.homes[h].life = m.seats[j].life ∧ m.seats[j].try_ ≤ m.homes[h].try_ := by
            obtain ⟨g, hg, e1, e2, e3⟩ := hP.home
            cases hf : m.homes.findIdx? (fun y : Hm => y.node == m.seats[j].node) with
            | none => exact absurd (List.findIdx?_eq_none_iff.1 hf g hg) (by rw [e1]; simp)
            | some h =>
              obtain ⟨hl, he, -⟩ := List.findIdx?_eq_some_iff_getElem.1 hf
              have : m.homes[h] = g := home_uniq hr.out.seated.hup (List.getElem_mem hl) hg (by rw [eq_of_beq he, e1])
              exact ⟨h, hl, by unfold idxI; rw [hf]; rfl, by rw [this]; exact e2, by rw [this]; exact e3⟩
          obtain ⟨z, hz'⟩ : ∃ z, m.seats[j] = z := ⟨_, rfl⟩
          rw [hz'] at hc hP hprev htw hhome
          obtain ⟨r0, r1, r2, r3, r4⟩ := hc wr (Below.refl _ _)
          obtain ⟨h, hh, hhi, hhl, hht⟩ := hhome
          have q1 : decide ((z.session : Int) < 1) = false := decide_eq_false (by have := hP.s1; omega)
          have q2 : decide (m.ns ≤ z.session) = false := decide_eq_false (by have := hP.s2; omega)
          have q2' : decide ((m.ns : Int) ≤ (z.session : Int)) = false := decide_eq_false (by have := hP.s2; omega)
          have q3 : decide ((z.try_ : Int) < 1) = false := decide_eq_false (by have := hP.t1; omega)
          have hj0 : (0 : Int) ≤ (j : Int) := by omega
          have hj1 : (j : Int) < (m.seats.length : Int) := by omega
          replace hprev := Lib.hid hprev
          replace htw := Lib.hid htw
          replace hhi := Lib.hid hhi
          replace hhl := Lib.hid hhl
          replace hht := Lib.hid hht
          have hzb := Lib.hid (hz.out.newBox [.int .u64 z.session, .int .u64 z.last, .int .i64 z.node, .int .u64 z.life, .int .u64 z.try_].toArray 55)
          have hbw := Lib.hid ((Below.refl wr.heap.size wr).alloc (Nat.le_refl _) (.cells [.int .u64 z.session, .int .u64 z.last, .int .i64 z.node, .int .u64 z.life, .int .u64 z.try_].toArray 55))
          clear hc hP hin1 hz' hbB
          go_upto_region 10 with fail
          generalize hLbE : wr.heap.size = Lb at hzb hprev hbw ⊢
          generalize (wr.alloc (.cells [.int .u64 z.session, .int .u64 z.last, .int .i64 z.node, .int .u64 z.life, .int .u64 z.try_].toArray 55)) = wl at hzb hbw ⊢
          clear r0 r1 r2 r3 r4
          obtain ⟨hbL, -⟩ := hzb.out.box 0 rfl
          obtain ⟨hbB, -⟩ := hzb.out.box 1 rfl
          have y2 : wl.cell? ⟨Lb, 2, none⟩ = some (.int .i64 z.node) := box_cell hbL 2
          have x0 : wl.cell? ⟨MB, 0, none⟩ = some (.slice ab nb cb) := box_cell hbB 0
          have x1 : wl.cell? ⟨MB, 1, none⟩ = some (.int .u64 m.nv) := box_cell hbB 1
          have x2 : wl.cell? ⟨MB, 2, none⟩ = some (.slice ah m.homes.length ch) := box_cell hbB 2
          have x3 : wl.cell? ⟨MB, 3, none⟩ = some (.slice (some ⟨b, bo, none⟩) m.seats.length cs) := box_cell hbB 3
          have x4 : wl.cell? ⟨MB, 4, none⟩ = some (.int .u64 m.ns) := box_cell hbB 4
          have x5 : wl.cell? ⟨MB, 5, none⟩ = some (.int .u64 m.sweeps) := box_cell hbB 5
          clear hbL hbB
          have hhome := Lib.hid (home_any ab ah (some ⟨b, bo, none⟩) nb cb ch m.seats.length cs m.nv m.ns m.sweeps m.homes z.node (hih0.out wl hzb.out.bel) (by omega))
          unfold mlVal at hhome
          go_wp2_with fail
          refine hhome.out.mono ?_
          rintro e w5 ⟨rfl, hb5⟩
          rw [hhi.out]
          dsimp only
          have hz5 := Lib.hid (hzb.out.below hb5.out)
          have hbw5 := Lib.hid (hbw.out.trans (hb5.out.mono (by rw [← hLbE]; exact hbw.out.size)))
          clear y2 x0 x1 x2 x3 x4 x5 hhome hb5 hzb hbw
          obtain ⟨hb2, ho2, cap2, hv2', hc2⟩ := hm_at (hih0.out w5 hz5.out.bel) hh
          injection hv2' with e1 e2 e3
          subst e1 e3
          obtain ⟨g0, g1, g2⟩ := hc2 w5 (Below.refl _ _)
          generalize m.homes[h].life = hlf at g1 hhl
          generalize m.homes[h].try_ = htr at g2 hht
          obtain ⟨hbL, -⟩ := hz5.out.box 0 rfl
          obtain ⟨hbB, -⟩ := hz5.out.box 1 rfl
          have y0 : w5.cell? ⟨Lb, 0, none⟩ = some (.int .u64 z.session) := box_cell hbL 0
          have y3 : w5.cell? ⟨Lb, 3, none⟩ = some (.int .u64 z.life) := box_cell hbL 3
          have y4 : w5.cell? ⟨Lb, 4, none⟩ = some (.int .u64 z.try_) := box_cell hbL 4
          have x2 : w5.cell? ⟨MB, 2, none⟩ = some (.slice (some ⟨hb2, ho2, none⟩) m.homes.length ch) := box_cell hbB 2
          have x3 : w5.cell? ⟨MB, 3, none⟩ = some (.slice (some ⟨b, bo, none⟩) m.seats.length cs) := box_cell hbB 3
          have x4 : w5.cell? ⟨MB, 4, none⟩ = some (.int .u64 m.ns) := box_cell hbB 4
          have k1 : decide ((h : Int) < 0) = false := decide_eq_false (by omega)
          have k2 : (0 : Int) ≤ (h : Int) := by omega
          have k3 : (h : Int) < (m.homes.length : Int) := by omega
          have k4 : ((hlf : Int) != (z.life : Int)) = false := by rw [hhl.out]; simp
          have k5 : decide (htr < z.try_) = false := decide_eq_false (by have := hht.out; omega)
          have k5' : decide ((htr : Int) < (z.try_ : Int)) = false := decide_eq_false (by have := hht.out; omega)
          clear hbL hbB g0 hc2 hv2 e2
          go_upto_region 11 with fail
          go_cut [119] (fun v119 wx => v119 = .bool false ∧ Hid (Below w5.heap.size w5 wx))
          case first =>
            rcases Nat.eq_zero_or_pos j with rfl | hjp
            · clear hprev
              go_wp2_with fail
              go_quiet (fail)
              go_wp2_with fail
              go_meet
              case rel => exact ⟨rfl, Lib.hid (below_drewN (Below.refl _ _) nq)⟩
            · obtain ⟨u, hpc, hpu⟩ := hprev.out hjp
              have p0 := hpc w5 hbw5.out
              have hu1 : decide (z.session ≤ u) = false := decide_eq_false (by omega)
              have hu2 : decide ((z.session : Int) ≤ (u : Int)) = false := decide_eq_false (by omega)
              have hp1 : (0 : Int) < (j : Int) := by omega
              have hp2 : (0 : Int) ≤ (j : Int) - 1 := by omega
              have hp3 : (j : Int) - 1 < (m.seats.length : Int) := by omega
              have hp4 : IntKind.i64.wrap ((j : Int) - 1) = (j : Int) - 1 := IntWalk.i64_in _ (by omega)
              have hp5 : ((j : Int) - 1).toNat = j - 1 := by omega
              have hp6 : (1 : Int) ≤ (j : Int) := by omega
              clear hprev hpc hpu
              go_wp2_with fail
              go_quiet (fail)
              go_wp2_with fail
              go_meet
              case rel => exact ⟨rfl, Lib.hid (below_drewN (Below.refl _ _) nq)⟩
          case rest =>
          obtain ⟨rfl, hb6⟩ := hcut
          generalize wc = w6 at *
          have hz6 := Lib.hid (hz5.out.below hb6.out)
          clear y0 y3 y4 x2 x3 x4 g1 g2 k1 k2 k3 k4 k5 k5' q1 q2 q2' q3 hz5 hb6 hprev hbw5 hhl hht
          go_upto_region 13 with fail
          have hzd := hz6.out.drew
          have hop := Lib.hid (opened_any (W := w6.drew) none none (some ⟨b, bo, none⟩) 0 0 0 0 cs 0 0 0 (m.seats.take j) z.node z.try_ (sts_take (his0.out w6.drew hzd.bel) hj) (by rw [List.length_take]; omega))
          rw [List.length_take, Nat.min_eq_left hj, htw.out] at hop
          unfold mlVal at hop
          obtain ⟨hbL, -⟩ := hzd.box 0 rfl
          obtain ⟨hbB, -⟩ := hzd.box 1 rfl
          have hS : w6.drew.cell? ⟨MB, 3, none⟩ = some (.slice (some ⟨b, bo, none⟩) m.seats.length cs) ∧ w6.drew.cell? ⟨Lb, 2, none⟩ = some (.int .i64 z.node) ∧ w6.drew.cell? ⟨Lb, 4, none⟩ = some (.int .u64 z.try_) := ⟨box_cell hbB 3, box_cell hbL 2, box_cell hbL 4⟩
          have hjc : decide ((j : Int) ≤ (cs : Int)) = true := decide_eq_true (by
            obtain ⟨a', c', hv', h'⟩ := his0.out w6.drew hzd.bel
            injection hv' with e1 e2 e3
            rcases h' with h' | ⟨_, _, _, _, hle, _⟩
            · omega
            · omega)
          have hjc2 : (j : Int) ≤ (cs : Int) := of_decide_eq_true hjc
          have hjc3 : j ≤ cs := by omega
          refine wp_region_hd (fun w' => w'.cell? ⟨MB, 3, none⟩ = some (.slice (some ⟨b, bo, none⟩) m.seats.length cs) ∧ w'.cell? ⟨Lb, 2, none⟩ = some (.int .i64 z.node) ∧ w'.cell? ⟨Lb, 4, none⟩ = some (.int .u64 z.try_)) 10 1 (by kernel_rfl) rfl ⟨by kernel_rfl, by kernel_rfl, by kernel_rfl, by decide⟩ hS (fun hok hS0 => ?_)
          clear hS
          generalize w6.drew = Wd at *
          refine Hd.take (i := 0) (v := ?tv61) hok rfl (by kernel_rfl) (fun _ _ _ h => h) (Or.inl ⟨by rfl, ?ty61⟩) (by assumption) ?tr61
          case ty61 => (intro w hSw; (try dsimp only at hSw); go_simp; (try with_reducible rfl))
          try simp only [List.getElem_toArray, List.getElem_cons_succ, List.getElem_cons_zero, Act.put, List.setIfInBounds_toArray, List.set_cons_zero, List.set_cons_succ]
          refine Hd.take (i := 1) (v := ?tv62) hok rfl (by kernel_rfl) (fun _ _ _ h => h) (Or.inl ⟨by rfl, ?ty62⟩) (by assumption) ?tr62
          case ty62 => (intro w hSw; (try dsimp only at hSw); go_simp; (try with_reducible rfl))
          try simp only [List.getElem_toArray, List.getElem_cons_succ, List.getElem_cons_zero, Act.put, List.setIfInBounds_toArray, List.set_cons_zero, List.set_cons_succ]
          refine Hd.take (i := 2) (v := ?tv63) hok rfl (by kernel_rfl) (fun _ _ _ h => h) (Or.inl ⟨by rfl, ?ty63⟩) (by assumption) ?tr63
          case ty63 => (intro w hSw; (try dsimp only at hSw); go_simp; (try with_reducible rfl))
          try simp only [List.getElem_toArray, List.getElem_cons_succ, List.getElem_cons_zero, Act.put, List.setIfInBounds_toArray, List.set_cons_zero, List.set_cons_succ]
          refine Hd.take (i := 3) (v := ?tv64) hok rfl (by kernel_rfl) (fun _ _ _ h => h) (Or.inl ⟨by rfl, ?ty64⟩) (by assumption) ?tr64
          case ty64 => (intro w hSw; (try dsimp only at hSw); go_simp; (try with_reducible rfl))
          try simp only [List.getElem_toArray, List.getElem_cons_succ, List.getElem_cons_zero, Act.put, List.setIfInBounds_toArray, List.set_cons_zero, List.set_cons_succ]
          refine Hd.take (i := 4) (v := ?tv65) hok rfl (by kernel_rfl) (fun _ _ _ h => h) (Or.inl ⟨by rfl, ?ty65⟩) (by assumption) ?tr65
          case ty65 => (intro w hSw; (try dsimp only at hSw); go_simp; (try with_reducible rfl))
          try simp only [List.getElem_toArray, List.getElem_cons_succ, List.getElem_cons_zero, Act.put, List.setIfInBounds_toArray, List.set_cons_zero, List.set_cons_succ]
          refine Hd.take (i := 5) (v := ?tv66) hok rfl (by kernel_rfl) (fun _ _ _ h => h) (Or.inl ⟨by rfl, ?ty66⟩) (by assumption) ?tr66
          case ty66 => (intro w hSw; (try dsimp only at hSw); go_simp; (try with_reducible rfl))
          try simp only [List.getElem_toArray, List.getElem_cons_succ, List.getElem_cons_zero, Act.put, List.setIfInBounds_toArray, List.set_cons_zero, List.set_cons_succ]
          refine Hd.take (i := 6) (v := ?tv67) hok rfl (by kernel_rfl) (fun _ _ _ h => h) (Or.inl ⟨by rfl, ?ty67⟩) (by assumption) ?tr67
          case ty67 => (intro w hSw; (try dsimp only at hSw); go_simp; (try with_reducible rfl))
          try simp only [List.getElem_toArray, List.getElem_cons_succ, List.getElem_cons_zero, Act.put, List.setIfInBounds_toArray, List.set_cons_zero, List.set_cons_succ]
          refine Hd.take (i := 7) (v := ?tv68) hok rfl (by kernel_rfl) (fun _ _ _ h => h) (Or.inl ⟨by rfl, ?ty68⟩) (by assumption) ?tr68
          case ty68 => (intro w hSw; (try dsimp only at hSw); go_simp; (try with_reducible rfl))
          try simp only [List.getElem_toArray, List.getElem_cons_succ, List.getElem_cons_zero, Act.put, List.setIfInBounds_toArray, List.set_cons_zero, List.set_cons_succ]
          refine Hd.take (i := 8) (v := ?tv69) hok rfl (by kernel_rfl) (fun _ _ _ h => h) (Or.inl ⟨by rfl, ?ty69⟩) (by assumption) ?tr69
          case ty69 => (intro w hSw; (try dsimp only at hSw); go_simp; (try with_reducible rfl))
          try simp only [List.getElem_toArray, List.getElem_cons_succ, List.getElem_cons_zero, Act.put, List.setIfInBounds_toArray, List.set_cons_zero, List.set_cons_succ]
          refine Hd.one (i := 9) rfl (by kernel_rfl) (fun K hK => ?_)
          go_simp
          refine hop.out.mono ?_
          rintro e w7 ⟨rfl, hb7⟩
          dsimp only
          have hz7 := hzd.below hb7.out
          clear hbL hbB
          obtain ⟨hbL, -⟩ := hz7.box 0 rfl
          obtain ⟨hbB, -⟩ := hz7.box 1 rfl
          have hS1 : w7.cell? ⟨MB, 3, none⟩ = some (.slice (some ⟨b, bo, none⟩) m.seats.length cs) ∧ w7.cell? ⟨Lb, 2, none⟩ = some (.int .i64 z.node) ∧ w7.cell? ⟨Lb, 4, none⟩ = some (.int .u64 z.try_) := ⟨box_cell hbB 3, box_cell hbL 2, box_cell hbL 4⟩
          refine hK _ _ hS1 ?_
          clear hK K hS0
          try simp only [List.getElem_toArray, List.getElem_cons_succ, List.getElem_cons_zero, Act.put, List.setIfInBounds_toArray, List.set_cons_zero, List.set_cons_succ]
          refine Hd.done (by kernel_rfl) ?_
          simp only [List.drop_succ_cons, List.drop_zero]
          have hzF := Lib.hid (hz7.sub (L' := [boxT MB [.slice ab nb cb, .int .u64 m.nv, .slice (some ⟨hb2, ho2, none⟩) m.homes.length ch, .slice (some ⟨b, bo, none⟩) m.seats.length cs, .int .u64 m.ns, .int .u64 m.sweeps].toArray 27]) (List.Sublist.cons _ (List.Sublist.refl _)))
          clear hok hS1 hbL hbB hzd hz7 hop hb7 hz6 htw
          go_wp2_with fail
          go_roundw
          case rel => exact ⟨j + 1, by go_num, by omega, hzF⟩
          case measure => simp [intOf] <;> omega
        · obtain rfl : j = m.seats.length := by omega
          have hbF := Lib.hid hz.out.bel
          clear hbB
          go_wp2_with fail
          go_ret
          first | exact ⟨rfl, hbF⟩ | (rw [← hMB]; exact ⟨rfl, hbF⟩)
end Go.Proofs.YtpkaoiadjffjiaaGreat
namespace Go.Proofs.YtpkaoiadjffjiaaGreat
set_option linter.unusedSimpArgs false
open Go.RowKit
attribute [local go_sem ↓] Go.wp_at_zero Go.wp_at_succ

theorem HUp.zero (l : List Hm) : HUp l 0 0 := ⟨fun x hx => by simp at hx, by simp, fun x hx => by simp at hx, Int.le_refl _, .inl rfl⟩
theorem SUp.zero (m : Ml) (l : List St) : SUp m l 0 0 := ⟨fun x hx => by simp at hx, by simp, by simp, fun x hx => by simp at hx, .inl rfl⟩
theorem idx_cases {α : Type} (p : α → Bool) (l : List α) : (idxI p l = -1 ∧ ∀ x ∈ l, p x = false) ∨ ∃ (k : Nat) (h : k < l.length), idxI p l = (k : Int) ∧ p l[k] = true := by
  cases hf : l.findIdx? p with
  | none => exact .inl ⟨by unfold idxI; rw [hf]; rfl, fun x hx => by simpa using List.findIdx?_eq_none_iff.1 hf x hx⟩
  | some k =>
    obtain ⟨h1, h2, -⟩ := List.findIdx?_eq_some_iff_getElem.1 hf
    exact .inr ⟨k, h1, by unfold idxI; rw [hf]; rfl, h2⟩
set_option maxRecDepth 100000 in
set_option maxHeartbeats 16000000 in
theorem seatsRight_no {W : World} (v : Value) {m : Ml} (hin : MlIn W v m) (hn : ¬ SeatsP m) (l5 : m.homes.length ≤ 1000) (l16 : m.seats.length ≤ 1000) : Calls Tryz.prog 46 #[v] W fun e w' => e = .returned (.bool false) ∧ Hid (Below W.heap.size W w') := by
  obtain ⟨ab, cb, nb, ah, ch, as_, cs, rfl⟩ := hin.out_
  have hz1 := (Zoo.nil W).newBox [.slice ab nb cb, .int .u64 m.nv, .slice ah m.homes.length ch, .slice as_ m.seats.length cs, .int .u64 m.ns, .int .u64 m.sweeps].toArray 27
  have hih0 : Hid (∀ w', Below W.heap.size W w' → HmsIn w' (.slice ah m.homes.length ch) m.homes) := Lib.hid (fun w' h => (hin.below h).rows.1)
  have his0 : Hid (∀ w', Below W.heap.size W w' → StsIn w' (.slice as_ m.seats.length cs) m.seats) := Lib.hid (fun w' h => (hin.below h).rows.2)
  generalize hMB : W.heap.size = MB at hz1
  generalize hWa : (W.alloc (.cells [.slice ab nb cb, .int .u64 m.nv, .slice ah m.homes.length ch, .slice as_ m.seats.length cs, .int .u64 m.ns, .int .u64 m.sweeps].toArray 27)) = Wa at hz1
  obtain ⟨hbB, -⟩ := hz1.box 0 rfl
  have x2 : Wa.cell? ⟨MB, 2, none⟩ = some (.slice ah m.homes.length ch) := box_cell hbB 2
  replace hn := Lib.hid hn
  replace hz1 := Lib.hid hz1
  clear hin hbB
  go_enter Tryz.func46, Tryz.ntmps46
  go_wp2_with fail
  clear x2
  go_loopw [11] (fun v11 wr => ∃ (j : Nat) (nd : Int), v11 = .int .i64 j ∧ j ≤ m.homes.length ∧ Hid (HUp m.homes j nd) ∧ Hid (j = 0 ∧ nd = 0 ∨ 0 < j ∧ ∀ h : j - 1 < m.homes.length, m.homes[j - 1].node = nd) ∧ Hid (Zoo W wr [boxT MB [.slice ab nb cb, .int .u64 m.nv, .slice ah m.homes.length ch, .slice as_ m.seats.length cs, .int .u64 m.ns, .int .u64 m.sweeps].toArray 27])) (fun v11 _ => m.homes.length - (intOf v11).toNat)
  case atStart => exact ⟨0, 0, rfl, Nat.zero_le _, Lib.hid (HUp.zero _), Lib.hid (.inl ⟨rfl, rfl⟩), hz1⟩
  case round =>
    clear hz1
    obtain ⟨j, nd, rfl, hj, hup, hla, hz⟩ := hrel
    obtain ⟨hbB, -⟩ := hz.out.box 0 rfl
    by_cases hlt : j < m.homes.length
    · have hin1 := hih0.out wr hz.out.bel
      obtain ⟨b, bo, cap, hv, hc⟩ := hm_at hin1 hlt
      injection hv with hv1 hv2 hv3
      subst hv1 hv3
      have hprev : 0 < j → ∀ W', Below wr.heap.size wr W' → W'.cell? ⟨b, bo + (j - 1) * 3, none⟩ = some (.int .i64 nd) := by
        intro hjp
        have hkl : j - 1 < m.homes.length := by omega
        obtain ⟨b', bo', cap', hv', hc'⟩ := hm_at hin1 hkl
        injection hv' with h1 h2 h3
        injection h1 with h1
        injection h1 with h1 h4
        subst h1 h4
        intro W' hb
        have h5 := (hc' W' hb).1
        rcases hla.out with ⟨h6, -⟩ | ⟨-, h6⟩
        · omega
        · rw [h6 hkl] at h5; exact h5
      have hl0 : j = 0 → nd = 0 := fun e => by
        rcases hla.out with ⟨-, h6⟩ | ⟨h6, -⟩
        · exact h6
        · omega
      have hst : ∀ (hP : HomeP m.homes[j]) (hl : nd < m.homes[j].node), HUp m.homes (j + 1) m.homes[j].node := fun hP hl => hup.out.step hlt hP hl
      obtain ⟨z, hz'⟩ : ∃ z, m.homes[j] = z := ⟨_, rfl⟩
      rw [hz'] at hc hst
      have hnx : Hid (j + 1 = 0 ∧ z.node = 0 ∨ 0 < j + 1 ∧ ∀ h : j + 1 - 1 < m.homes.length, m.homes[j + 1 - 1].node = z.node) := Lib.hid (.inr ⟨by omega, fun h => (by rw [← hz']; rfl)⟩)
      obtain ⟨r0, r1, r2⟩ := hc wr (Below.refl _ _)
      have hj0 : (0 : Int) ≤ (j : Int) := by omega
      have hj1 : (j : Int) < (m.homes.length : Int) := by omega
      replace hprev := Lib.hid hprev
      replace hst := Lib.hid hst
      replace hl0 := Lib.hid hl0
      have hzb := Lib.hid (hz.out.newBox [.int .i64 z.node, .int .u64 z.life, .int .u64 z.try_].toArray 51)
      have hbw := Lib.hid ((Below.refl wr.heap.size wr).alloc (Nat.le_refl _) (.cells [.int .i64 z.node, .int .u64 z.life, .int .u64 z.try_].toArray 51))
      clear hc hin1 hz' hbB hup hla
      go_upto_region 4 with fail
      generalize hLbE : wr.heap.size = Lb at hzb hprev hbw ⊢
      generalize (wr.alloc (.cells [.int .i64 z.node, .int .u64 z.life, .int .u64 z.try_].toArray 51)) = wl at hzb hbw ⊢
      clear r0 r1 r2
      obtain ⟨hbL, -⟩ := hzb.out.box 0 rfl
      obtain ⟨hbB, -⟩ := hzb.out.box 1 rfl
      have y0 : wl.cell? ⟨Lb, 0, none⟩ = some (.int .i64 z.node) := box_cell hbL 0
      have y1 : wl.cell? ⟨Lb, 1, none⟩ = some (.int .u64 z.life) := box_cell hbL 1
      have y2 : wl.cell? ⟨Lb, 2, none⟩ = some (.int .u64 z.try_) := box_cell hbL 2
      have x2 : wl.cell? ⟨MB, 2, none⟩ = some (.slice (some ⟨b, bo, none⟩) m.homes.length ch) := box_cell hbB 2
      have hzF := Lib.hid (hzb.out.sub (L' := [boxT MB [.slice ab nb cb, .int .u64 m.nv, .slice (some ⟨b, bo, none⟩) m.homes.length ch, .slice as_ m.seats.length cs, .int .u64 m.ns, .int .u64 m.sweeps].toArray 27]) (List.Sublist.cons _ (List.Sublist.refl _)))
      clear hbL hbB hzb hz
      by_cases t0 : 1 ≤ z.node
      case neg =>
        have q1 : decide (z.node < 1) = true := decide_eq_true (by omega)
        clear t0 hprev hbw hst hl0
        go_wp2_with fail
        go_quiet (fail)
        have hbF := Lib.hid (hzF.out.below (below_drewN (Below.refl _ _) nq)).bel
        go_wp2_with fail
        go_ret
        first | exact ⟨rfl, hbF⟩ | (rw [← hMB]; exact ⟨rfl, hbF⟩)
      have q1 : decide (z.node < 1) = false := decide_eq_false (by omega)
      by_cases t1 : z.node ≤ 5
      case neg =>
        have q2 : decide (5 < z.node) = true := decide_eq_true (by omega)
        clear t0 t1 hprev hbw hst hl0
        go_wp2_with fail
        go_quiet (fail)
        have hbF := Lib.hid (hzF.out.below (below_drewN (Below.refl _ _) nq)).bel
        go_wp2_with fail
        go_ret
        first | exact ⟨rfl, hbF⟩ | (rw [← hMB]; exact ⟨rfl, hbF⟩)
      have q2 : decide (5 < z.node) = false := decide_eq_false (by omega)
      by_cases t2 : z.life ≠ 0
      case neg =>
        have q3 : ((z.life : Int) == 0) = true := by simp; omega
        clear t0 t1 t2 hprev hbw hst hl0
        go_wp2_with fail
        go_quiet (fail)
        have hbF := Lib.hid (hzF.out.below (below_drewN (Below.refl _ _) nq)).bel
        go_wp2_with fail
        go_ret
        first | exact ⟨rfl, hbF⟩ | (rw [← hMB]; exact ⟨rfl, hbF⟩)
      have q3 : ((z.life : Int) == 0) = false := by simp; omega
      by_cases t3 : z.try_ ≠ 0
      case neg =>
        have q4 : ((z.try_ : Int) == 0) = true := by simp; omega
        clear t0 t1 t2 t3 hprev hbw hst hl0
        go_wp2_with fail
        go_quiet (fail)
        have hbF := Lib.hid (hzF.out.below (below_drewN (Below.refl _ _) nq)).bel
        go_wp2_with fail
        go_ret
        first | exact ⟨rfl, hbF⟩ | (rw [← hMB]; exact ⟨rfl, hbF⟩)
      have q4 : ((z.try_ : Int) == 0) = false := by simp; omega
      have hP : Hid (HomeP z) := Lib.hid ⟨t0, t1, t2, t3⟩
      rcases Nat.eq_zero_or_pos j with rfl | hjp
      · obtain rfl := hl0.out rfl
        have hup2 := Lib.hid (hst.out hP.out (by omega))
        clear hprev hbw t0 t1 t2 t3 hst hl0
        go_wp2_with fail
        go_quiet (fail)
        go_wp2_with fail
        go_roundw
        case rel => exact ⟨0 + 1, z.node, by go_num, by omega, hup2, hnx, Lib.hid (hzF.out.below (below_drewN (Below.refl _ _) nq))⟩
        case measure => simp [intOf] <;> omega
      · have p0 := hprev.out hjp wl hbw.out
        have hp1 : (0 : Int) < (j : Int) := by omega
        have hp2 : (0 : Int) ≤ (j : Int) - 1 := by omega
        have hp3 : (j : Int) - 1 < (m.homes.length : Int) := by omega
        have hp4 : IntKind.i64.wrap ((j : Int) - 1) = (j : Int) - 1 := IntWalk.i64_in _ (by omega)
        have hp5 : ((j : Int) - 1).toNat = j - 1 := by omega
        have hp6 : (1 : Int) ≤ (j : Int) := by omega
        by_cases hlu : nd < z.node
        · have hu1 : decide (z.node ≤ nd) = false := decide_eq_false (by omega)
          have hup2 := Lib.hid (hst.out hP.out hlu)
          clear hprev hbw t0 t1 t2 t3 hst hl0 hlu
          go_wp2_with fail
          go_quiet (fail)
          go_wp2_with fail
          go_roundw
          case rel => exact ⟨j + 1, z.node, by go_num, by omega, hup2, hnx, Lib.hid (hzF.out.below (below_drewN (Below.refl _ _) nq))⟩
          case measure => simp [intOf] <;> omega
        · have hu1 : decide (z.node ≤ nd) = true := decide_eq_true (by omega)
          clear hprev hbw t0 t1 t2 t3 hst hl0 hlu
          go_wp2_with fail
          go_quiet (fail)
          have hbF := Lib.hid (hzF.out.below (below_drewN (Below.refl _ _) nq)).bel
          go_wp2_with fail
          go_ret
          first | exact ⟨rfl, hbF⟩ | (rw [← hMB]; exact ⟨rfl, hbF⟩)
    · obtain rfl : j = m.homes.length := by omega
      have x3 : wr.cell? ⟨MB, 3, none⟩ = some (.slice as_ m.seats.length cs) := box_cell hbB 3
      have hh1 : Hid ((∀ h ∈ m.homes, HomeP h) ∧ m.homes.Pairwise (fun x y => x.node < y.node)) := Lib.hid (by
        have h1 := hup.out.1
        have h2 := hup.out.2.1
        rw [List.take_length] at h1 h2
        exact ⟨h1, h2⟩)
      have hn2 : Hid (∀ last, SUp m m.seats m.seats.length last → False) := Lib.hid (fun last h => hn.out (by
        have h1 := h.1
        have h2 := h.2.1
        have h3 := h.2.2.1
        rw [List.take_length] at h1 h2 h3
        exact ⟨hh1.out.1, hh1.out.2, h1, h2, h3⟩))
      clear hbB hup hla hh1 hn
      go_wp2_with fail
      clear x3
      go_loopw [54] (fun v54 wr => ∃ j last : Nat, v54 = .int .i64 j ∧ j ≤ m.seats.length ∧ Hid (SUp m m.seats j last) ∧ Hid (j = 0 ∧ last = 0 ∨ 0 < j ∧ ∀ h : j - 1 < m.seats.length, m.seats[j - 1].session = last) ∧ Hid (Zoo W wr [boxT MB [.slice ab nb cb, .int .u64 m.nv, .slice ah m.homes.length ch, .slice as_ m.seats.length cs, .int .u64 m.ns, .int .u64 m.sweeps].toArray 27])) (fun v54 _ => m.seats.length - (intOf v54).toNat)
      case atStart => exact ⟨0, 0, rfl, Nat.zero_le _, Lib.hid (SUp.zero _ _), Lib.hid (.inl ⟨rfl, rfl⟩), hz⟩
      case round =>
        clear hz
        obtain ⟨j, last, rfl, hj, hup, hla, hz⟩ := hrel
        obtain ⟨hbB, -⟩ := hz.out.box 0 rfl
        by_cases hlt : j < m.seats.length
        · have hin1 := his0.out wr hz.out.bel
          obtain ⟨b, bo, cap, hv, hc⟩ := st_at hin1 hlt
          injection hv with hv1 hv2 hv3
          subst hv1 hv3
          have hprev : 0 < j → ∀ W', Below wr.heap.size wr W' → W'.cell? ⟨b, bo + (j - 1) * 5, none⟩ = some (.int .u64 last) := by
            intro hjp
            have hkl : j - 1 < m.seats.length := by omega
            obtain ⟨b', bo', cap', hv', hc'⟩ := st_at hin1 hkl
            injection hv' with h1 h2 h3
            injection h1 with h1
            injection h1 with h1 h4
            subst h1 h4
            intro W' hb
            have h5 := (hc' W' hb).1
            rcases hla.out with ⟨h6, -⟩ | ⟨-, h6⟩
            · omega
            · rw [h6 hkl] at h5; exact h5
          have hl0 : j = 0 → last = 0 := fun e => by
            rcases hla.out with ⟨-, h6⟩ | ⟨h6, -⟩
            · exact h6
            · omega
          have hst : ∀ (hP : SeatP m m.seats[j]) (hl : last < m.seats[j].session) (ht : ∀ x ∈ m.seats.take j, ((x.node == m.seats[j].node) && (x.try_ == m.seats[j].try_)) = false), SUp m m.seats (j + 1) m.seats[j].session := fun hP hl ht => hup.out.step hlt hP hl (fun k hk hkj e => by
            have h1 := ht m.seats[k] (by
              rw [List.mem_iff_getElem]
              exact ⟨k, by rw [List.length_take]; omega, by rw [List.getElem_take]⟩)
            rw [e.1, e.2] at h1
            simp at h1)
          obtain ⟨z, hz'⟩ : ∃ z, m.seats[j] = z := ⟨_, rfl⟩
          rw [hz'] at hc hst
          have hnx : Hid (j + 1 = 0 ∧ z.session = 0 ∨ 0 < j + 1 ∧ ∀ h : j + 1 - 1 < m.seats.length, m.seats[j + 1 - 1].session = z.session) := Lib.hid (.inr ⟨by omega, fun h => (by rw [← hz']; rfl)⟩)
          obtain ⟨r0, r1, r2, r3, r4⟩ := hc wr (Below.refl _ _)
          have hj0 : (0 : Int) ≤ (j : Int) := by omega
          have hj1 : (j : Int) < (m.seats.length : Int) := by omega
          replace hprev := Lib.hid hprev
          replace hst := Lib.hid hst
          replace hl0 := Lib.hid hl0
          have hzb := Lib.hid (hz.out.newBox [.int .u64 z.session, .int .u64 z.last, .int .i64 z.node, .int .u64 z.life, .int .u64 z.try_].toArray 55)
          have hbw := Lib.hid ((Below.refl wr.heap.size wr).alloc (Nat.le_refl _) (.cells [.int .u64 z.session, .int .u64 z.last, .int .i64 z.node, .int .u64 z.life, .int .u64 z.try_].toArray 55))
          clear hc hin1 hz' hbB hup hla
          go_upto_region 10 with fail
          generalize hLbE : wr.heap.size = Lb at hzb hprev hbw ⊢
          generalize (wr.alloc (.cells [.int .u64 z.session, .int .u64 z.last, .int .i64 z.node, .int .u64 z.life, .int .u64 z.try_].toArray 55)) = wl at hzb hbw ⊢
          clear r0 r1 r2 r3 r4
          obtain ⟨hbL, -⟩ := hzb.out.box 0 rfl
          obtain ⟨hbB, -⟩ := hzb.out.box 1 rfl
          have y2 : wl.cell? ⟨Lb, 2, none⟩ = some (.int .i64 z.node) := box_cell hbL 2
          have x0 : wl.cell? ⟨MB, 0, none⟩ = some (.slice ab nb cb) := box_cell hbB 0
          have x1 : wl.cell? ⟨MB, 1, none⟩ = some (.int .u64 m.nv) := box_cell hbB 1
          have x2 : wl.cell? ⟨MB, 2, none⟩ = some (.slice ah m.homes.length ch) := box_cell hbB 2
          have x3 : wl.cell? ⟨MB, 3, none⟩ = some (.slice (some ⟨b, bo, none⟩) m.seats.length cs) := box_cell hbB 3
          have x4 : wl.cell? ⟨MB, 4, none⟩ = some (.int .u64 m.ns) := box_cell hbB 4
          have x5 : wl.cell? ⟨MB, 5, none⟩ = some (.int .u64 m.sweeps) := box_cell hbB 5
          clear hbL hbB
          have hhome := Lib.hid (home_any ab ah (some ⟨b, bo, none⟩) nb cb ch m.seats.length cs m.nv m.ns m.sweeps m.homes z.node (hih0.out wl hzb.out.bel) (by omega))
          unfold mlVal at hhome
          obtain ⟨hi, hhi⟩ : ∃ hi, idxI (fun x : Hm => x.node == z.node) m.homes = hi := ⟨_, rfl⟩
          rw [hhi] at hhome
          replace hhi := Lib.hid hhi
          go_wp2_with fail
          refine hhome.out.mono ?_
          rintro e w5 ⟨rfl, hb5⟩
          dsimp only
          have hz5 := Lib.hid (hzb.out.below hb5.out)
          have hbw5 := Lib.hid (hbw.out.trans (hb5.out.mono (by rw [← hLbE]; exact hbw.out.size)))
          clear y2 x0 x1 x2 x3 x4 x5 hhome hb5 hzb hbw hz
          obtain ⟨hbL, -⟩ := hz5.out.box 0 rfl
          obtain ⟨hbB, -⟩ := hz5.out.box 1 rfl
          have y0 : w5.cell? ⟨Lb, 0, none⟩ = some (.int .u64 z.session) := box_cell hbL 0
          have y3 : w5.cell? ⟨Lb, 3, none⟩ = some (.int .u64 z.life) := box_cell hbL 3
          have y4 : w5.cell? ⟨Lb, 4, none⟩ = some (.int .u64 z.try_) := box_cell hbL 4
          have x2 : w5.cell? ⟨MB, 2, none⟩ = some (.slice ah m.homes.length ch) := box_cell hbB 2
          have x3 : w5.cell? ⟨MB, 3, none⟩ = some (.slice (some ⟨b, bo, none⟩) m.seats.length cs) := box_cell hbB 3
          have x4 : w5.cell? ⟨MB, 4, none⟩ = some (.int .u64 m.ns) := box_cell hbB 4
          clear hbL hbB
          go_upto_region 11 with fail
          go_cut [119] (fun v119 wx => ∃ B : Bool, v119 = .bool B ∧ Hid (B = false → SeatP m z ∧ last < z.session) ∧ Hid (Below w5.heap.size w5 wx))
          case first =>
            have hne : m.homes.length = m.homes.length := rfl
            clear hne
            by_cases t0 : 1 ≤ z.session
            case neg =>
              have q1 : decide ((z.session : Int) < 1) = true := decide_eq_true (by omega)
              clear t0 hprev hbw5 hst hl0
              go_wp2_with fail
              go_quiet (fail)
              go_wp2_with fail
              go_meet
              case rel => exact ⟨true, rfl, Lib.hid (fun h => (by cases h)), Lib.hid (below_drewN (Below.refl _ _) nq)⟩
            have q1 : decide ((z.session : Int) < 1) = false := decide_eq_false (by omega)
            by_cases t1 : z.session < m.ns
            case neg =>
              have q2 : decide (m.ns ≤ z.session) = true := decide_eq_true (by omega)
              have q2b : decide ((m.ns : Int) ≤ (z.session : Int)) = true := decide_eq_true (by omega)
              clear t0 t1 hprev hbw5 hst hl0
              go_wp2_with fail
              go_quiet (fail)
              go_wp2_with fail
              go_meet
              case rel => exact ⟨true, rfl, Lib.hid (fun h => (by cases h)), Lib.hid (below_drewN (Below.refl _ _) nq)⟩
            have q2 : decide (m.ns ≤ z.session) = false := decide_eq_false (by omega)
            have q2b : decide ((m.ns : Int) ≤ (z.session : Int)) = false := decide_eq_false (by omega)
            by_cases t2 : 0 < j → last < z.session
            case neg =>
              have hjp : 0 < j := by omega
              have p0 := hprev.out hjp w5 hbw5.out
              have hp1 : (0 : Int) < (j : Int) := by omega
              have hp2 : (0 : Int) ≤ (j : Int) - 1 := by omega
              have hp3 : (j : Int) - 1 < (m.seats.length : Int) := by omega
              have hp4 : IntKind.i64.wrap ((j : Int) - 1) = (j : Int) - 1 := IntWalk.i64_in _ (by omega)
              have hp5 : ((j : Int) - 1).toNat = j - 1 := by omega
              have hp6 : (1 : Int) ≤ (j : Int) := by omega
              have hu1 : decide (z.session ≤ last) = true := decide_eq_true (by omega)
              have hu2 : decide ((z.session : Int) ≤ (last : Int)) = true := decide_eq_true (by omega)
              clear t0 t1 t2 hprev hbw5 hst hl0
              go_wp2_with fail
              go_quiet (fail)
              go_wp2_with fail
              go_meet
              case rel => exact ⟨true, rfl, Lib.hid (fun h => (by cases h)), Lib.hid (below_drewN (Below.refl _ _) nq)⟩
            have hls : last < z.session := by
              rcases Nat.eq_zero_or_pos j with h | h
              · have := hl0.out h; omega
              · exact t2 h
            have hpv : j = 0 ∨ 0 < j ∧ w5.cell? ⟨b, bo + (j - 1) * 5, none⟩ = some (.int .u64 last) := by
              rcases Nat.eq_zero_or_pos j with h | h
              · exact .inl h
              · exact .inr ⟨h, hprev.out h w5 hbw5.out⟩
            have hu1 : decide (z.session ≤ last) = false := decide_eq_false (by omega)
            have hu2 : decide ((z.session : Int) ≤ (last : Int)) = false := decide_eq_false (by omega)
            replace hls := Lib.hid hls
            clear hprev hbw5 hst hl0 t2
            rcases idx_cases (fun x : Hm => x.node == z.node) m.homes with ⟨h1, -⟩ | ⟨h, hh, h1, h2⟩
            · obtain rfl : hi = -1 := hhi.out.symm.trans h1
              clear h1 t0 t1
              rcases hpv with rfl | ⟨hjp, p0⟩
              · go_wp2_with fail
                go_quiet (fail)
                go_wp2_with fail
                go_meet
                case rel => exact ⟨true, rfl, Lib.hid (fun h => (by cases h)), Lib.hid (below_drewN (Below.refl _ _) nq)⟩
              · have hp1 : (0 : Int) < (j : Int) := by omega
                have hp2 : (0 : Int) ≤ (j : Int) - 1 := by omega
                have hp3 : (j : Int) - 1 < (m.seats.length : Int) := by omega
                have hp4 : IntKind.i64.wrap ((j : Int) - 1) = (j : Int) - 1 := IntWalk.i64_in _ (by omega)
                have hp5 : ((j : Int) - 1).toNat = j - 1 := by omega
                have hp6 : (1 : Int) ≤ (j : Int) := by omega
                go_wp2_with fail
                go_quiet (fail)
                go_wp2_with fail
                go_meet
                case rel => exact ⟨true, rfl, Lib.hid (fun h => (by cases h)), Lib.hid (below_drewN (Below.refl _ _) nq)⟩
            · obtain rfl : hi = (h : Int) := hhi.out.symm.trans h1
              have hnode : Hid (m.homes[h].node = z.node) := Lib.hid (eq_of_beq h2)
              have hmem : Hid (m.homes[h] ∈ m.homes) := Lib.hid (List.getElem_mem hh)
              obtain ⟨hb2, ho2, cap2, hv2', hc2⟩ := hm_at (hih0.out w5 hz5.out.bel) hh
              injection hv2' with e1 e2 e3
              subst e1 e3
              obtain ⟨-, g1, g2⟩ := hc2 w5 (Below.refl _ _)
              have k1 : decide ((h : Int) < 0) = false := decide_eq_false (by omega)
              have k2 : (0 : Int) ≤ (h : Int) := by omega
              have k3 : (h : Int) < (m.homes.length : Int) := by omega
              generalize hG : m.homes[h] = G at g1 g2 hnode hmem
              clear hc2 e2 h1 h2 hG
              by_cases t3 : G.life = z.life
              case neg =>
                have k4 : ((G.life : Int) != (z.life : Int)) = true := by simp; omega
                clear t0 t1 t3
                rcases hpv with rfl | ⟨hjp, p0⟩
                · go_wp2_with fail
                  go_quiet (fail)
                  go_wp2_with fail
                  go_meet
                  case rel => exact ⟨true, rfl, Lib.hid (fun h => (by cases h)), Lib.hid (below_drewN (Below.refl _ _) nq)⟩
                · have hp1 : (0 : Int) < (j : Int) := by omega
                  have hp2 : (0 : Int) ≤ (j : Int) - 1 := by omega
                  have hp3 : (j : Int) - 1 < (m.seats.length : Int) := by omega
                  have hp4 : IntKind.i64.wrap ((j : Int) - 1) = (j : Int) - 1 := IntWalk.i64_in _ (by omega)
                  have hp5 : ((j : Int) - 1).toNat = j - 1 := by omega
                  have hp6 : (1 : Int) ≤ (j : Int) := by omega
                  go_wp2_with fail
                  go_quiet (fail)
                  go_wp2_with fail
                  go_meet
                  case rel => exact ⟨true, rfl, Lib.hid (fun h => (by cases h)), Lib.hid (below_drewN (Below.refl _ _) nq)⟩
              have k4 : ((G.life : Int) != (z.life : Int)) = false := by simp; omega
              by_cases t4 : 1 ≤ z.try_
              case neg =>
                have q3 : decide ((z.try_ : Int) < 1) = true := decide_eq_true (by omega)
                clear t0 t1 t3 t4
                rcases hpv with rfl | ⟨hjp, p0⟩
                · go_wp2_with fail
                  go_quiet (fail)
                  go_wp2_with fail
                  go_meet
                  case rel => exact ⟨true, rfl, Lib.hid (fun h => (by cases h)), Lib.hid (below_drewN (Below.refl _ _) nq)⟩
                · have hp1 : (0 : Int) < (j : Int) := by omega
                  have hp2 : (0 : Int) ≤ (j : Int) - 1 := by omega
                  have hp3 : (j : Int) - 1 < (m.seats.length : Int) := by omega
                  have hp4 : IntKind.i64.wrap ((j : Int) - 1) = (j : Int) - 1 := IntWalk.i64_in _ (by omega)
                  have hp5 : ((j : Int) - 1).toNat = j - 1 := by omega
                  have hp6 : (1 : Int) ≤ (j : Int) := by omega
                  go_wp2_with fail
                  go_quiet (fail)
                  go_wp2_with fail
                  go_meet
                  case rel => exact ⟨true, rfl, Lib.hid (fun h => (by cases h)), Lib.hid (below_drewN (Below.refl _ _) nq)⟩
              have q3 : decide ((z.try_ : Int) < 1) = false := decide_eq_false (by omega)
              by_cases t5 : z.try_ ≤ G.try_
              case neg =>
                have k5 : decide (G.try_ < z.try_) = true := decide_eq_true (by omega)
                have k5b : decide ((G.try_ : Int) < (z.try_ : Int)) = true := decide_eq_true (by omega)
                clear t0 t1 t3 t4 t5
                rcases hpv with rfl | ⟨hjp, p0⟩
                · go_wp2_with fail
                  go_quiet (fail)
                  go_wp2_with fail
                  go_meet
                  case rel => exact ⟨true, rfl, Lib.hid (fun h => (by cases h)), Lib.hid (below_drewN (Below.refl _ _) nq)⟩
                · have hp1 : (0 : Int) < (j : Int) := by omega
                  have hp2 : (0 : Int) ≤ (j : Int) - 1 := by omega
                  have hp3 : (j : Int) - 1 < (m.seats.length : Int) := by omega
                  have hp4 : IntKind.i64.wrap ((j : Int) - 1) = (j : Int) - 1 := IntWalk.i64_in _ (by omega)
                  have hp5 : ((j : Int) - 1).toNat = j - 1 := by omega
                  have hp6 : (1 : Int) ≤ (j : Int) := by omega
                  go_wp2_with fail
                  go_quiet (fail)
                  go_wp2_with fail
                  go_meet
                  case rel => exact ⟨true, rfl, Lib.hid (fun h => (by cases h)), Lib.hid (below_drewN (Below.refl _ _) nq)⟩
              have k5 : decide (G.try_ < z.try_) = false := decide_eq_false (by omega)
              have k5b : decide ((G.try_ : Int) < (z.try_ : Int)) = false := decide_eq_false (by omega)
              have hgood : Hid (SeatP m z ∧ last < z.session) := Lib.hid ⟨⟨t0, t1, t4, G, hmem.out, hnode.out, t3, t5⟩, hls.out⟩
              clear t0 t1 t3 t4 t5
              rcases hpv with rfl | ⟨hjp, p0⟩
              · go_wp2_with fail
                go_quiet (fail)
                go_wp2_with fail
                go_meet
                case rel => exact ⟨false, rfl, Lib.hid (fun _ => hgood.out), Lib.hid (below_drewN (Below.refl _ _) nq)⟩
              · have hp1 : (0 : Int) < (j : Int) := by omega
                have hp2 : (0 : Int) ≤ (j : Int) - 1 := by omega
                have hp3 : (j : Int) - 1 < (m.seats.length : Int) := by omega
                have hp4 : IntKind.i64.wrap ((j : Int) - 1) = (j : Int) - 1 := IntWalk.i64_in _ (by omega)
                have hp5 : ((j : Int) - 1).toNat = j - 1 := by omega
                have hp6 : (1 : Int) ≤ (j : Int) := by omega
                go_wp2_with fail
                go_quiet (fail)
                go_wp2_with fail
                go_meet
                case rel => exact ⟨false, rfl, Lib.hid (fun _ => hgood.out), Lib.hid (below_drewN (Below.refl _ _) nq)⟩
          case rest =>
          obtain ⟨B, rfl, hB, hb6⟩ := hcut
          generalize wc = w6 at *
          have hz6 := Lib.hid (hz5.out.below hb6.out)
          clear y0 y3 y4 x2 x3 x4 hz5 hb6 hprev hbw5 hhi
          cases B with
          | true =>
            have hbF := Lib.hid hz6.out.bel
            go_wp2_with fail
            go_ret
            first | exact ⟨rfl, hbF⟩ | (rw [← hMB]; exact ⟨rfl, hbF⟩)
          | false =>
          have hgood := Lib.hid (hB.out rfl)
          clear hB
          go_upto_region 13 with fail
          have hzd := hz6.out.drew
          have hop := Lib.hid (opened_any (W := w6.drew) none none (some ⟨b, bo, none⟩) 0 0 0 0 cs 0 0 0 (m.seats.take j) z.node z.try_ (sts_take (his0.out w6.drew hzd.bel) hj) (by rw [List.length_take]; omega))
          have hidx := idx_cases (fun x : St => x.node == z.node && x.try_ == z.try_) (m.seats.take j)
          generalize idxI (fun x : St => x.node == z.node && x.try_ == z.try_) (m.seats.take j) = ix at hop hidx
          have hix : (0 : Int) ≤ ix ∧ decide ((0 : Int) ≤ ix) = true ∨ decide ((0 : Int) ≤ ix) = false ∧ ¬ (0 : Int) ≤ ix ∧ Hid (∀ x ∈ m.seats.take j, ((x.node == z.node) && (x.try_ == z.try_)) = false) := by
            rcases hidx with ⟨h1, h2⟩ | ⟨k, _, h1, _⟩
            · exact .inr ⟨decide_eq_false (by omega), by omega, Lib.hid h2⟩
            · exact .inl ⟨by omega, decide_eq_true (by omega)⟩
          clear hidx
          rw [List.length_take, Nat.min_eq_left hj] at hop
          unfold mlVal at hop
          obtain ⟨hbL, -⟩ := hzd.box 0 rfl
          obtain ⟨hbB, -⟩ := hzd.box 1 rfl
          have hS : w6.drew.cell? ⟨MB, 3, none⟩ = some (.slice (some ⟨b, bo, none⟩) m.seats.length cs) ∧ w6.drew.cell? ⟨Lb, 2, none⟩ = some (.int .i64 z.node) ∧ w6.drew.cell? ⟨Lb, 4, none⟩ = some (.int .u64 z.try_) := ⟨box_cell hbB 3, box_cell hbL 2, box_cell hbL 4⟩
          have hjc : decide ((j : Int) ≤ (cs : Int)) = true := decide_eq_true (by
            obtain ⟨a', c', hv', h'⟩ := his0.out w6.drew hzd.bel
            injection hv' with e1 e2 e3
            rcases h' with h' | ⟨_, _, _, _, hle, _⟩
            · omega
            · omega)
          have hjc2 : (j : Int) ≤ (cs : Int) := of_decide_eq_true hjc
          have hjc3 : j ≤ cs := by omega
          refine wp_region_hd (fun w' => w'.cell? ⟨MB, 3, none⟩ = some (.slice (some ⟨b, bo, none⟩) m.seats.length cs) ∧ w'.cell? ⟨Lb, 2, none⟩ = some (.int .i64 z.node) ∧ w'.cell? ⟨Lb, 4, none⟩ = some (.int .u64 z.try_)) 10 1 (by kernel_rfl) rfl ⟨by kernel_rfl, by kernel_rfl, by kernel_rfl, by decide⟩ hS (fun hok hS0 => ?_)
          clear hS
          generalize w6.drew = Wd at *
          refine Hd.take (i := 0) (v := ?tv1) hok rfl (by kernel_rfl) (fun _ _ _ h => h) (Or.inl ⟨by rfl, ?ty1⟩) (by assumption) ?tr1
          case ty1 => (intro w hSw; (try dsimp only at hSw); go_simp; (try with_reducible rfl))
          try simp only [List.getElem_toArray, List.getElem_cons_succ, List.getElem_cons_zero, Act.put, List.setIfInBounds_toArray, List.set_cons_zero, List.set_cons_succ]
          refine Hd.take (i := 1) (v := ?tv2) hok rfl (by kernel_rfl) (fun _ _ _ h => h) (Or.inl ⟨by rfl, ?ty2⟩) (by assumption) ?tr2
          case ty2 => (intro w hSw; (try dsimp only at hSw); go_simp; (try with_reducible rfl))
          try simp only [List.getElem_toArray, List.getElem_cons_succ, List.getElem_cons_zero, Act.put, List.setIfInBounds_toArray, List.set_cons_zero, List.set_cons_succ]
          refine Hd.take (i := 2) (v := ?tv3) hok rfl (by kernel_rfl) (fun _ _ _ h => h) (Or.inl ⟨by rfl, ?ty3⟩) (by assumption) ?tr3
          case ty3 => (intro w hSw; (try dsimp only at hSw); go_simp; (try with_reducible rfl))
          try simp only [List.getElem_toArray, List.getElem_cons_succ, List.getElem_cons_zero, Act.put, List.setIfInBounds_toArray, List.set_cons_zero, List.set_cons_succ]
          refine Hd.take (i := 3) (v := ?tv4) hok rfl (by kernel_rfl) (fun _ _ _ h => h) (Or.inl ⟨by rfl, ?ty4⟩) (by assumption) ?tr4
          case ty4 => (intro w hSw; (try dsimp only at hSw); go_simp; (try with_reducible rfl))
          try simp only [List.getElem_toArray, List.getElem_cons_succ, List.getElem_cons_zero, Act.put, List.setIfInBounds_toArray, List.set_cons_zero, List.set_cons_succ]
          refine Hd.take (i := 4) (v := ?tv5) hok rfl (by kernel_rfl) (fun _ _ _ h => h) (Or.inl ⟨by rfl, ?ty5⟩) (by assumption) ?tr5
          case ty5 => (intro w hSw; (try dsimp only at hSw); go_simp; (try with_reducible rfl))
          try simp only [List.getElem_toArray, List.getElem_cons_succ, List.getElem_cons_zero, Act.put, List.setIfInBounds_toArray, List.set_cons_zero, List.set_cons_succ]
          refine Hd.take (i := 5) (v := ?tv6) hok rfl (by kernel_rfl) (fun _ _ _ h => h) (Or.inl ⟨by rfl, ?ty6⟩) (by assumption) ?tr6
          case ty6 => (intro w hSw; (try dsimp only at hSw); go_simp; (try with_reducible rfl))
          try simp only [List.getElem_toArray, List.getElem_cons_succ, List.getElem_cons_zero, Act.put, List.setIfInBounds_toArray, List.set_cons_zero, List.set_cons_succ]
          refine Hd.take (i := 6) (v := ?tv7) hok rfl (by kernel_rfl) (fun _ _ _ h => h) (Or.inl ⟨by rfl, ?ty7⟩) (by assumption) ?tr7
          case ty7 => (intro w hSw; (try dsimp only at hSw); go_simp; (try with_reducible rfl))
          try simp only [List.getElem_toArray, List.getElem_cons_succ, List.getElem_cons_zero, Act.put, List.setIfInBounds_toArray, List.set_cons_zero, List.set_cons_succ]
          refine Hd.take (i := 7) (v := ?tv8) hok rfl (by kernel_rfl) (fun _ _ _ h => h) (Or.inl ⟨by rfl, ?ty8⟩) (by assumption) ?tr8
          case ty8 => (intro w hSw; (try dsimp only at hSw); go_simp; (try with_reducible rfl))
          try simp only [List.getElem_toArray, List.getElem_cons_succ, List.getElem_cons_zero, Act.put, List.setIfInBounds_toArray, List.set_cons_zero, List.set_cons_succ]
          refine Hd.take (i := 8) (v := ?tv9) hok rfl (by kernel_rfl) (fun _ _ _ h => h) (Or.inl ⟨by rfl, ?ty9⟩) (by assumption) ?tr9
          case ty9 => (intro w hSw; (try dsimp only at hSw); go_simp; (try with_reducible rfl))
          try simp only [List.getElem_toArray, List.getElem_cons_succ, List.getElem_cons_zero, Act.put, List.setIfInBounds_toArray, List.set_cons_zero, List.set_cons_succ]
          refine Hd.one (i := 9) rfl (by kernel_rfl) (fun K hK => ?_)
          go_simp
          refine hop.out.mono ?_
          rintro e w7 ⟨rfl, hb7⟩
          dsimp only
          have hz7 := hzd.below hb7.out
          clear hbL hbB
          obtain ⟨hbL, -⟩ := hz7.box 0 rfl
          obtain ⟨hbB, -⟩ := hz7.box 1 rfl
          have hS1 : w7.cell? ⟨MB, 3, none⟩ = some (.slice (some ⟨b, bo, none⟩) m.seats.length cs) ∧ w7.cell? ⟨Lb, 2, none⟩ = some (.int .i64 z.node) ∧ w7.cell? ⟨Lb, 4, none⟩ = some (.int .u64 z.try_) := ⟨box_cell hbB 3, box_cell hbL 2, box_cell hbL 4⟩
          refine hK _ _ hS1 ?_
          clear hK K hS0
          try simp only [List.getElem_toArray, List.getElem_cons_succ, List.getElem_cons_zero, Act.put, List.setIfInBounds_toArray, List.set_cons_zero, List.set_cons_succ]
          refine Hd.done (by kernel_rfl) ?_
          simp only [List.drop_succ_cons, List.drop_zero]
          have hzF := Lib.hid (hz7.sub (L' := [boxT MB [.slice ab nb cb, .int .u64 m.nv, .slice ah m.homes.length ch, .slice (some ⟨b, bo, none⟩) m.seats.length cs, .int .u64 m.ns, .int .u64 m.sweeps].toArray 27]) (List.Sublist.cons _ (List.Sublist.refl _)))
          have hbF := Lib.hid hz7.bel
          clear hok hS1 hbL hbB hzd hz7 hop hb7 hz6
          rcases hix with ⟨hi1, hi2⟩ | ⟨hi2, hi1, htw⟩
          · clear hzF
            go_wp2_with fail
            go_ret
            first | exact ⟨rfl, hbF⟩ | (rw [← hMB]; exact ⟨rfl, hbF⟩)
          · have hup2 := Lib.hid (hst.out hgood.out.1 hgood.out.2 htw.out)
            clear htw hgood hst hl0
            go_wp2_with fail
            go_roundw
            case rel => exact ⟨j + 1, z.session, by go_num, by omega, hup2, hnx, hzF⟩
            case measure => simp [intOf] <;> omega
        · obtain rfl : j = m.seats.length := by omega
          exact absurd (hn2.out _ hup.out) id
theorem seatsRight_any {W : World} (v : Value) {m : Ml} (hin : MlIn W v m) (hr : SeatsP m → RightP m) (l5 : m.homes.length ≤ 1000) (l16 : m.seats.length ≤ 1000) : Calls Tryz.prog 46 #[v] W (YesNo (SeatsP m) W) := by
  by_cases hp : SeatsP m
  · exact (seatsRight_yes v hin (hr hp)).mono (fun _ _ h => yn_yes hp h)
  · exact (seatsRight_no v hin hp l5 l16).mono (fun _ _ h => yn_no hp h)
end Go.Proofs.YtpkaoiadjffjiaaGreat
