/- mail's seatsRight, asked about a right state: walked. (written by tools/gen_MnJ.py) mail.Right, asked about a right state: walked. (written by tools/gen_MnG.py) -/
import Derived.Test.YtdobbfjmlnlieaaGreatB29
import Derived.Test.YtdobbfjmlnlieaaGreatB20
import Derived.Test.YtdobbfjmlnlieaaGreatB22
import Derived.Test.YtdobbfjmlnlieaaGreatB21
namespace Go.Proofs.YtdobbfjmlnlieaaGreat
set_option linter.unusedSimpArgs false
open Go.RowKit
attribute [local go_sem ↓] Go.wp_at_zero Go.wp_at_succ

theorem MlIn.rows {W : World} {m : Ml} {ab ah as_ : Option Addr} {nb cb nv nh ch ns cs nse sw : Nat} (h : MlIn W (.agg #[.slice ab nb cb, .int .u64 nv, .slice ah nh ch, .slice as_ ns cs, .int .u64 nse, .int .u64 sw]) m) : HmsIn W (.slice ah nh ch) m.homes ∧ StsIn W (.slice as_ ns cs) m.seats := by
  obtain ⟨vb, vh, vs, bs, e, hbs, hib, hih, his⟩ := h
  unfold mlVal at e
  have e1 := congrArg (fun v => match v with | .agg a => (a[2]?, a[3]?) | _ => (none, none)) e
  simp at e1
  rw [e1.1, e1.2]
  exact ⟨hih, his⟩
theorem hm_at {W : World} {v : Value} {l : List Hm} (h : HmsIn W v l) {j : Nat} (hj : j < l.length) : ∃ b bo cap, v = .slice (some ⟨b, bo, none⟩) l.length cap ∧ ∀ W', Below W.heap.size W W' → W'.cell? ⟨b, bo + j * 3, none⟩ = some (.int .i64 l[j].node) ∧ W'.cell? ⟨b, bo + j * 3 + 1, none⟩ = some (.int .u64 l[j].life) ∧ W'.cell? ⟨b, bo + j * 3 + 2, none⟩ = some (.int .u64 l[j].try_) := by
  obtain ⟨b, bo, cap, hv, -, hbl, hc⟩ := hmT.rd_cells h hj
  refine ⟨b, bo, cap, hv, fun W' hb => ?_⟩
  have hk : ∀ r u, (hmT.enc l[j])[r]? = some u → W'.cell? ⟨b, bo + j * 3 + r, none⟩ = some u := fun r u hu => by
    rw [Nat.add_assoc]
    exact (hb.cell (p := ⟨b, bo + (j * 3 + r), none⟩) hbl).trans (hc r u hu)
  exact ⟨hk 0 _ rfl, hk 1 _ rfl, hk 2 _ rfl⟩
theorem st_at {W : World} {v : Value} {l : List St} (h : StsIn W v l) {j : Nat} (hj : j < l.length) : ∃ b bo cap, v = .slice (some ⟨b, bo, none⟩) l.length cap ∧ ∀ W', Below W.heap.size W W' → W'.cell? ⟨b, bo + j * 5, none⟩ = some (.int .u64 l[j].session) ∧ W'.cell? ⟨b, bo + j * 5 + 1, none⟩ = some (.int .u64 l[j].last) ∧ W'.cell? ⟨b, bo + j * 5 + 2, none⟩ = some (.int .i64 l[j].node) ∧ W'.cell? ⟨b, bo + j * 5 + 3, none⟩ = some (.int .u64 l[j].life) ∧ W'.cell? ⟨b, bo + j * 5 + 4, none⟩ = some (.int .u64 l[j].try_) := by
  obtain ⟨b, bo, cap, hv, -, hbl, hc⟩ := stT.rd_cells h hj
  refine ⟨b, bo, cap, hv, fun W' hb => ?_⟩
  have hk : ∀ r u, (stT.enc l[j])[r]? = some u → W'.cell? ⟨b, bo + j * 5 + r, none⟩ = some u := fun r u hu => by
    rw [Nat.add_assoc]
    exact (hb.cell (p := ⟨b, bo + (j * 5 + r), none⟩) hbl).trans (hc r u hu)
  exact ⟨hk 0 _ rfl, hk 1 _ rfl, hk 2 _ rfl, hk 3 _ rfl, hk 4 _ rfl⟩
/-- the first i of a row -/
theorem sts_take {W : World} {a : Option Addr} {n c : Nat} {l : List St} (h : StsIn W (.slice a n c) l) {i : Nat} (hi : i ≤ l.length) : StsIn W (.slice a (l.take i).length c) (l.take i) := by
  obtain ⟨a', c', hv, h⟩ := h
  injection hv with e1 e2 e3
  subst e1 e3
  refine ⟨a, c, rfl, ?_⟩
  rcases h with h | ⟨b, o, ha, hb, hle, hc⟩
  · left; rw [List.length_take]; omega
  · refine .inr ⟨b, o, ha, hb, by rw [List.length_take]; omega, fun j u hu => hc j u ?_⟩
    have hsp : stT.cells l = stT.cells (l.take i) ++ stT.cells (l.drop i) := by rw [← stT.cells_app, List.take_append_drop]
    rw [hsp, List.getElem?_append_left (List.getElem?_eq_some_iff.1 hu).1]
    exact hu
set_option maxRecDepth 100000 in
set_option maxHeartbeats 16000000 in
theorem seatsRight_yes {W : World} (v : Value) {m : Ml} (hin : MlIn W v m) (hr : RightP m) : Calls Tryz.prog 72 #[v] W fun e w' => e = .returned (.bool true) ∧ Hid (Below W.heap.size W w') := by
  obtain ⟨ab, cb, nb, ah, ch, as_, cs, rfl⟩ := hin.out_
  have hz1 := (Zoo.nil W).newBox [.slice ab nb cb, .int .u64 m.nv, .slice ah m.homes.length ch, .slice as_ m.seats.length cs, .int .u64 m.ns, .int .u64 m.sweeps].toArray 27
  have hih0 : Hid (∀ w', Below W.heap.size W w' → HmsIn w' (.slice ah m.homes.length ch) m.homes) := Lib.hid (fun w' h => (hin.below h).rows.1)
  have his0 : Hid (∀ w', Below W.heap.size W w' → StsIn w' (.slice as_ m.seats.length cs) m.seats) := Lib.hid (fun w' h => (hin.below h).rows.2)
  generalize hMB : W.heap.size = MB at hz1
  generalize hWa : (W.alloc (.cells [.slice ab nb cb, .int .u64 m.nv, .slice ah m.homes.length ch, .slice as_ m.seats.length cs, .int .u64 m.ns, .int .u64 m.sweeps].toArray 27)) = Wa at hz1
  obtain ⟨hbB, -⟩ := hz1.box 0 rfl
  have x2 : Wa.cell? ⟨MB, 2, none⟩ = some (.slice ah m.homes.length ch) := box_cell hbB 2
  have l5 := hr.homes5
  have l16 := hr.ls
  replace hr := Lib.hid hr
  replace hz1 := Lib.hid hz1
  clear hin hbB
  go_enter Tryz.func72, Tryz.ntmps72
  go_wp2_with fail
  clear x2
  go_loopw [11] (fun v11 wr => ∃ j : Nat, v11 = .int .i64 j ∧ j ≤ m.homes.length ∧ Hid (Zoo W wr [boxT MB [.slice ab nb cb, .int .u64 m.nv, .slice ah m.homes.length ch, .slice as_ m.seats.length cs, .int .u64 m.ns, .int .u64 m.sweeps].toArray 27])) (fun v11 _ => m.homes.length - (intOf v11).toNat)
  case atStart => exact ⟨0, rfl, Nat.zero_le _, hz1⟩
  case round =>
    clear hz1
    obtain ⟨j, rfl, hj, hz⟩ := hrel
    obtain ⟨hbB, -⟩ := hz.out.box 0 rfl
    by_cases hlt : j < m.homes.length
    · have hin1 := hih0.out wr hz.out.bel
      obtain ⟨b, bo, cap, hv, hc⟩ := hm_at hin1 hlt
      injection hv with hv1 hv2 hv3
      subst hv1 hv3
      have hP := hr.out.seated.homes _ (List.getElem_mem hlt)
      have hprev : 0 < j → ∃ u : Int, (∀ W', Below wr.heap.size wr W' → W'.cell? ⟨b, bo + (j - 1) * 3, none⟩ = some (.int .i64 u)) ∧ u < m.homes[j].node := by
        intro hjp
        have hkl : j - 1 < m.homes.length := by omega
        obtain ⟨b', bo', cap', hv', hc'⟩ := hm_at hin1 hkl
        injection hv' with h1 h2 h3
        injection h1 with h1
        injection h1 with h1 h4
        subst h1 h4
        exact ⟨m.homes[j - 1].node, fun W' hb => (hc' W' hb).1, List.pairwise_iff_getElem.1 hr.out.seated.hup (j - 1) j hkl hlt (by omega)⟩
      obtain ⟨z, hz'⟩ : ∃ z, m.homes[j] = z := ⟨_, rfl⟩
      rw [hz'] at hc hP hprev
      obtain ⟨r0, r1, r2⟩ := hc wr (Below.refl _ _)
      have q1 : decide (z.node < 1) = false := decide_eq_false (by have := hP.n1; omega)
      have q2 : decide (5 < z.node) = false := decide_eq_false (by have := hP.n2; omega)
      have q3 : ((z.life : Int) == 0) = false := by have := hP.l; rw [beq_eq_false_iff_ne]; omega
      have q4 : ((z.try_ : Int) == 0) = false := by have := hP.t; rw [beq_eq_false_iff_ne]; omega
      have hj0 : (0 : Int) ≤ (j : Int) := by omega
      have hj1 : (j : Int) < (m.homes.length : Int) := by omega
      replace hprev := Lib.hid hprev
      have hzb := Lib.hid (hz.out.newBox [.int .i64 z.node, .int .u64 z.life, .int .u64 z.try_].toArray 67)
      have hbw := Lib.hid ((Below.refl wr.heap.size wr).alloc (Nat.le_refl _) (.cells [.int .i64 z.node, .int .u64 z.life, .int .u64 z.try_].toArray 67))
      clear hc hP hin1 hz' hbB
      go_upto_region 4 with fail
      generalize hLbE : wr.heap.size = Lb at hzb hprev hbw ⊢
      generalize (wr.alloc (.cells [.int .i64 z.node, .int .u64 z.life, .int .u64 z.try_].toArray 67)) = wl at hzb hbw ⊢
      clear r0 r1 r2
      obtain ⟨hbL, -⟩ := hzb.out.box 0 rfl
      obtain ⟨hbB, -⟩ := hzb.out.box 1 rfl
      have y0 : wl.cell? ⟨Lb, 0, none⟩ = some (.int .i64 z.node) := box_cell hbL 0
      have y1 : wl.cell? ⟨Lb, 1, none⟩ = some (.int .u64 z.life) := box_cell hbL 1
      have y2 : wl.cell? ⟨Lb, 2, none⟩ = some (.int .u64 z.try_) := box_cell hbL 2
      have x2 : wl.cell? ⟨MB, 2, none⟩ = some (.slice (some ⟨b, bo, none⟩) m.homes.length ch) := box_cell hbB 2
      have hzF := Lib.hid (hzb.out.sub (L' := [boxT MB [.slice ab nb cb, .int .u64 m.nv, .slice (some ⟨b, bo, none⟩) m.homes.length ch, .slice as_ m.seats.length cs, .int .u64 m.ns, .int .u64 m.sweeps].toArray 27]) (List.Sublist.cons _ (List.Sublist.refl _)))
      clear hbL hbB hzb
      rcases Nat.eq_zero_or_pos j with rfl | hjp
      · clear hprev hbw
        go_wp2_with fail
        go_quiet (fail)
        go_wp2_with fail
        go_roundw
        case rel => exact ⟨0 + 1, by go_num, by omega, Lib.hid (hzF.out.below (below_drewN (Below.refl _ _) nq))⟩
        case measure => simp [intOf] <;> omega
      · obtain ⟨u, hpc, hpu⟩ := hprev.out hjp
        have p0 := hpc wl hbw.out
        have hu1 : decide (z.node ≤ u) = false := decide_eq_false (by omega)
        have hp1 : (0 : Int) < (j : Int) := by omega
        have hp2 : (0 : Int) ≤ (j : Int) - 1 := by omega
        have hp3 : (j : Int) - 1 < (m.homes.length : Int) := by omega
        have hp4 : IntKind.i64.wrap ((j : Int) - 1) = (j : Int) - 1 := IntWalk.i64_in _ (by omega)
        have hp5 : ((j : Int) - 1).toNat = j - 1 := by omega
        have hp6 : (1 : Int) ≤ (j : Int) := by omega
        clear hprev hpc hpu hbw
        go_wp2_with fail
        go_quiet (fail)
        go_wp2_with fail
        go_roundw
        case rel => exact ⟨j + 1, by go_num, by omega, Lib.hid (hzF.out.below (below_drewN (Below.refl _ _) nq))⟩
        case measure => simp [intOf] <;> omega
    · obtain rfl : j = m.homes.length := by omega
      have x3 : wr.cell? ⟨MB, 3, none⟩ = some (.slice as_ m.seats.length cs) := box_cell hbB 3
      clear hbB
      go_wp2_with fail
      clear x3
      go_loopw [54] (fun v54 wr => ∃ j : Nat, v54 = .int .i64 j ∧ j ≤ m.seats.length ∧ Hid (Zoo W wr [boxT MB [.slice ab nb cb, .int .u64 m.nv, .slice ah m.homes.length ch, .slice as_ m.seats.length cs, .int .u64 m.ns, .int .u64 m.sweeps].toArray 27])) (fun v54 _ => m.seats.length - (intOf v54).toNat)
      case atStart => exact ⟨0, rfl, Nat.zero_le _, hz⟩
      case round =>
        clear hz
        obtain ⟨j, rfl, hj, hz⟩ := hrel
        obtain ⟨hbB, -⟩ := hz.out.box 0 rfl
        by_cases hlt : j < m.seats.length
        · have hin1 := his0.out wr hz.out.bel
          obtain ⟨b, bo, cap, hv, hc⟩ := st_at hin1 hlt
          injection hv with hv1 hv2 hv3
          subst hv1 hv3
          have hP := hr.out.seated.seats _ (List.getElem_mem hlt)
          have hprev : 0 < j → ∃ u : Nat, (∀ W', Below wr.heap.size wr W' → W'.cell? ⟨b, bo + (j - 1) * 5, none⟩ = some (.int .u64 u)) ∧ u < m.seats[j].session := by
            intro hjp
            have hkl : j - 1 < m.seats.length := by omega
            obtain ⟨b', bo', cap', hv', hc'⟩ := st_at hin1 hkl
            injection hv' with h1 h2 h3
            injection h1 with h1
            injection h1 with h1 h4
            subst h1 h4
            exact ⟨m.seats[j - 1].session, fun W' hb => (hc' W' hb).1, List.pairwise_iff_getElem.1 hr.out.seated.sup (j - 1) j hkl hlt (by omega)⟩
          have htw : idxI (fun y : St => y.node == m.seats[j].node && y.try_ == m.seats[j].try_) (m.seats.take j) = -1 := idxI_none (fun k hk => by
            rw [List.length_take] at hk
            rw [List.getElem_take]
            have := List.pairwise_iff_getElem.1 hr.out.seated.twin k j (by omega) hlt (by omega)
            cases h1 : (m.seats[k].node == m.seats[j].node) with
            | false => rfl
            | true =>
              cases h2 : (m.seats[k].try_ == m.seats[j].try_) with
              | false => rfl
              | true => exact absurd ⟨eq_of_beq h1, eq_of_beq h2⟩ this)
          have hhome : ∃ (h : Nat) (hh : h < m.homes.length), idxI (fun y : Hm => y.node == m.seats[j].node) m.homes = (h : Int) ∧ m.homes[h].life = m.seats[j].life ∧ m.seats[j].try_ ≤ m.homes[h].try_ := by
            obtain ⟨g, hg, e1, e2, e3⟩ := hP.home
            cases hf : m.homes.findIdx? (fun y : Hm => y.node == m.seats[j].node) with
            | none => exact absurd (List.findIdx?_eq_none_iff.1 hf g hg) (by rw [e1]; simp)
            | some h =>
              obtain ⟨hl, he, -⟩ := List.findIdx?_eq_some_iff_getElem.1 hf
              have : m.homes[h] = g := home_uniq hr.out.seated.hup (List.getElem_mem hl) hg (by rw [eq_of_beq he, e1])
              exact ⟨h, hl, by unfold idxI; rw [hf]; rfl, by rw [this]; exact e2, by rw [this]; exact e3⟩
          obtain ⟨z, hz'⟩ : ∃ z, m.seats[j] = z := ⟨_, rfl⟩
          rw [hz'] at hc hP hprev htw hhome
          obtain ⟨r0, r1, r2, r3, r4⟩ := hc wr (Below.refl _ _)
          obtain ⟨h, hh, hhi, hhl, hht⟩ := hhome
          have q1 : decide ((z.session : Int) < 1) = false := decide_eq_false (by have := hP.s1; omega)
          have q2 : decide (m.ns ≤ z.session) = false := decide_eq_false (by have := hP.s2; omega)
          have q2' : decide ((m.ns : Int) ≤ (z.session : Int)) = false := decide_eq_false (by have := hP.s2; omega)
          have q3 : decide ((z.try_ : Int) < 1) = false := decide_eq_false (by have := hP.t1; omega)
          have hj0 : (0 : Int) ≤ (j : Int) := by omega
          have hj1 : (j : Int) < (m.seats.length : Int) := by omega
          replace hprev := Lib.hid hprev
          replace htw := Lib.hid htw
          replace hhi := Lib.hid hhi
          replace hhl := Lib.hid hhl
          replace hht := Lib.hid hht
          have hzb := Lib.hid (hz.out.newBox [.int .u64 z.session, .int .u64 z.last, .int .i64 z.node, .int .u64 z.life, .int .u64 z.try_].toArray 69)
          have hbw := Lib.hid ((Below.refl wr.heap.size wr).alloc (Nat.le_refl _) (.cells [.int .u64 z.session, .int .u64 z.last, .int .i64 z.node, .int .u64 z.life, .int .u64 z.try_].toArray 69))
          clear hc hP hin1 hz' hbB
          go_upto_region 10 with fail
          generalize hLbE : wr.heap.size = Lb at hzb hprev hbw ⊢
          generalize (wr.alloc (.cells [.int .u64 z.session, .int .u64 z.last, .int .i64 z.node, .int .u64 z.life, .int .u64 z.try_].toArray 69)) = wl at hzb hbw ⊢
          clear r0 r1 r2 r3 r4
          obtain ⟨hbL, -⟩ := hzb.out.box 0 rfl
          obtain ⟨hbB, -⟩ := hzb.out.box 1 rfl
          have y2 : wl.cell? ⟨Lb, 2, none⟩ = some (.int .i64 z.node) := box_cell hbL 2
          have x0 : wl.cell? ⟨MB, 0, none⟩ = some (.slice ab nb cb) := box_cell hbB 0
          have x1 : wl.cell? ⟨MB, 1, none⟩ = some (.int .u64 m.nv) := box_cell hbB 1
          have x2 : wl.cell? ⟨MB, 2, none⟩ = some (.slice ah m.homes.length ch) := box_cell hbB 2
          have x3 : wl.cell? ⟨MB, 3, none⟩ = some (.slice (some ⟨b, bo, none⟩) m.seats.length cs) := box_cell hbB 3
          have x4 : wl.cell? ⟨MB, 4, none⟩ = some (.int .u64 m.ns) := box_cell hbB 4
          have x5 : wl.cell? ⟨MB, 5, none⟩ = some (.int .u64 m.sweeps) := box_cell hbB 5
          clear hbL hbB
          have hhome := Lib.hid (home_any ab ah (some ⟨b, bo, none⟩) nb cb ch m.seats.length cs m.nv m.ns m.sweeps m.homes z.node (hih0.out wl hzb.out.bel) (by omega))
          unfold mlVal at hhome
          go_wp2_with fail
          refine hhome.out.mono ?_
          rintro e w5 ⟨rfl, hb5⟩
          rw [hhi.out]
          dsimp only
          have hz5 := Lib.hid (hzb.out.below hb5.out)
          have hbw5 := Lib.hid (hbw.out.trans (hb5.out.mono (by rw [← hLbE]; exact hbw.out.size)))
          clear y2 x0 x1 x2 x3 x4 x5 hhome hb5 hzb hbw
          obtain ⟨hb2, ho2, cap2, hv2', hc2⟩ := hm_at (hih0.out w5 hz5.out.bel) hh
          injection hv2' with e1 e2 e3
          subst e1 e3
          obtain ⟨g0, g1, g2⟩ := hc2 w5 (Below.refl _ _)
          generalize m.homes[h].life = hlf at g1 hhl
          generalize m.homes[h].try_ = htr at g2 hht
          obtain ⟨hbL, -⟩ := hz5.out.box 0 rfl
          obtain ⟨hbB, -⟩ := hz5.out.box 1 rfl
          have y0 : w5.cell? ⟨Lb, 0, none⟩ = some (.int .u64 z.session) := box_cell hbL 0
          have y3 : w5.cell? ⟨Lb, 3, none⟩ = some (.int .u64 z.life) := box_cell hbL 3
          have y4 : w5.cell? ⟨Lb, 4, none⟩ = some (.int .u64 z.try_) := box_cell hbL 4
          have x2 : w5.cell? ⟨MB, 2, none⟩ = some (.slice (some ⟨hb2, ho2, none⟩) m.homes.length ch) := box_cell hbB 2
          have x3 : w5.cell? ⟨MB, 3, none⟩ = some (.slice (some ⟨b, bo, none⟩) m.seats.length cs) := box_cell hbB 3
          have x4 : w5.cell? ⟨MB, 4, none⟩ = some (.int .u64 m.ns) := box_cell hbB 4
          have k1 : decide ((h : Int) < 0) = false := decide_eq_false (by omega)
          have k2 : (0 : Int) ≤ (h : Int) := by omega
          have k3 : (h : Int) < (m.homes.length : Int) := by omega
          have k4 : ((hlf : Int) != (z.life : Int)) = false := by rw [hhl.out]; simp
          have k5 : decide (htr < z.try_) = false := decide_eq_false (by have := hht.out; omega)
          have k5' : decide ((htr : Int) < (z.try_ : Int)) = false := decide_eq_false (by have := hht.out; omega)
          clear hbL hbB g0 hc2 hv2 e2
          go_upto_region 11 with fail
          go_cut [119] (fun v119 wx => v119 = .bool false ∧ Hid (Below w5.heap.size w5 wx))
          case first =>
            rcases Nat.eq_zero_or_pos j with rfl | hjp
            · clear hprev
              go_wp2_with fail
              go_quiet (fail)
              go_wp2_with fail
              go_meet
              case rel => exact ⟨rfl, Lib.hid (below_drewN (Below.refl _ _) nq)⟩
            · obtain ⟨u, hpc, hpu⟩ := hprev.out hjp
              have p0 := hpc w5 hbw5.out
              have hu1 : decide (z.session ≤ u) = false := decide_eq_false (by omega)
              have hu2 : decide ((z.session : Int) ≤ (u : Int)) = false := decide_eq_false (by omega)
              have hp1 : (0 : Int) < (j : Int) := by omega
              have hp2 : (0 : Int) ≤ (j : Int) - 1 := by omega
              have hp3 : (j : Int) - 1 < (m.seats.length : Int) := by omega
              have hp4 : IntKind.i64.wrap ((j : Int) - 1) = (j : Int) - 1 := IntWalk.i64_in _ (by omega)
              have hp5 : ((j : Int) - 1).toNat = j - 1 := by omega
              have hp6 : (1 : Int) ≤ (j : Int) := by omega
              clear hprev hpc hpu
              go_wp2_with fail
              go_quiet (fail)
              go_wp2_with fail
              go_meet
              case rel => exact ⟨rfl, Lib.hid (below_drewN (Below.refl _ _) nq)⟩
          case rest =>
          obtain ⟨rfl, hb6⟩ := hcut
          generalize wc = w6 at *
          have hz6 := Lib.hid (hz5.out.below hb6.out)
          clear y0 y3 y4 x2 x3 x4 g1 g2 k1 k2 k3 k4 k5 k5' q1 q2 q2' q3 hz5 hb6 hprev hbw5 hhl hht
          go_upto_region 13 with fail
          have hzd := hz6.out.drew
          have hop := Lib.hid (opened_any (W := w6.drew) none none (some ⟨b, bo, none⟩) 0 0 0 0 cs 0 0 0 (m.seats.take j) z.node z.try_ (sts_take (his0.out w6.drew hzd.bel) hj) (by rw [List.length_take]; omega))
          rw [List.length_take, Nat.min_eq_left hj, htw.out] at hop
          unfold mlVal at hop
          obtain ⟨hbL, -⟩ := hzd.box 0 rfl
          obtain ⟨hbB, -⟩ := hzd.box 1 rfl
          have hS : w6.drew.cell? ⟨MB, 3, none⟩ = some (.slice (some ⟨b, bo, none⟩) m.seats.length cs) ∧ w6.drew.cell? ⟨Lb, 2, none⟩ = some (.int .i64 z.node) ∧ w6.drew.cell? ⟨Lb, 4, none⟩ = some (.int .u64 z.try_) := ⟨box_cell hbB 3, box_cell hbL 2, box_cell hbL 4⟩
          have hjc : decide ((j : Int) ≤ (cs : Int)) = true := decide_eq_true (by
            obtain ⟨a', c', hv', h'⟩ := his0.out w6.drew hzd.bel
            injection hv' with e1 e2 e3
            rcases h' with h' | ⟨_, _, _, _, hle, _⟩
            · omega
            · omega)
          have hjc2 : (j : Int) ≤ (cs : Int) := of_decide_eq_true hjc
          have hjc3 : j ≤ cs := by omega
          refine wp_region_hd (fun w' => w'.cell? ⟨MB, 3, none⟩ = some (.slice (some ⟨b, bo, none⟩) m.seats.length cs) ∧ w'.cell? ⟨Lb, 2, none⟩ = some (.int .i64 z.node) ∧ w'.cell? ⟨Lb, 4, none⟩ = some (.int .u64 z.try_)) 10 1 (by kernel_rfl) rfl ⟨by kernel_rfl, by kernel_rfl, by kernel_rfl, by decide⟩ hS (fun hok hS0 => ?_)
          clear hS
          generalize w6.drew = Wd at *
          refine Hd.take (i := 0) (v := ?tv413) hok rfl (by kernel_rfl) (fun _ _ _ h => h) (Or.inl ⟨by rfl, ?ty413⟩) (by assumption) ?tr413
          case ty413 => (intro w hSw; (try dsimp only at hSw); go_simp; (try with_reducible rfl))
          try simp only [List.getElem_toArray, List.getElem_cons_succ, List.getElem_cons_zero, Act.put, List.setIfInBounds_toArray, List.set_cons_zero, List.set_cons_succ]
          refine Hd.take (i := 1) (v := ?tv414) hok rfl (by kernel_rfl) (fun _ _ _ h => h) (Or.inl ⟨by rfl, ?ty414⟩) (by assumption) ?tr414
          case ty414 => (intro w hSw; (try dsimp only at hSw); go_simp; (try with_reducible rfl))
          try simp only [List.getElem_toArray, List.getElem_cons_succ, List.getElem_cons_zero, Act.put, List.setIfInBounds_toArray, List.set_cons_zero, List.set_cons_succ]
          refine Hd.take (i := 2) (v := ?tv415) hok rfl (by kernel_rfl) (fun _ _ _ h => h) (Or.inl ⟨by rfl, ?ty415⟩) (by assumption) ?tr415
          case ty415 => (intro w hSw; (try dsimp only at hSw); go_simp; (try with_reducible rfl))
          try simp only [List.getElem_toArray, List.getElem_cons_succ, List.getElem_cons_zero, Act.put, List.setIfInBounds_toArray, List.set_cons_zero, List.set_cons_succ]
          refine Hd.take (i := 3) (v := ?tv416) hok rfl (by kernel_rfl) (fun _ _ _ h => h) (Or.inl ⟨by rfl, ?ty416⟩) (by assumption) ?tr416
          case ty416 => (intro w hSw; (try dsimp only at hSw); go_simp; (try with_reducible rfl))
          try simp only [List.getElem_toArray, List.getElem_cons_succ, List.getElem_cons_zero, Act.put, List.setIfInBounds_toArray, List.set_cons_zero, List.set_cons_succ]
          refine Hd.take (i := 4) (v := ?tv417) hok rfl (by kernel_rfl) (fun _ _ _ h => h) (Or.inl ⟨by rfl, ?ty417⟩) (by assumption) ?tr417
          case ty417 => (intro w hSw; (try dsimp only at hSw); go_simp; (try with_reducible rfl))
          try simp only [List.getElem_toArray, List.getElem_cons_succ, List.getElem_cons_zero, Act.put, List.setIfInBounds_toArray, List.set_cons_zero, List.set_cons_succ]
          refine Hd.take (i := 5) (v := ?tv418) hok rfl (by kernel_rfl) (fun _ _ _ h => h) (Or.inl ⟨by rfl, ?ty418⟩) (by assumption) ?tr418
          case ty418 => (intro w hSw; (try dsimp only at hSw); go_simp; (try with_reducible rfl))
          try simp only [List.getElem_toArray, List.getElem_cons_succ, List.getElem_cons_zero, Act.put, List.setIfInBounds_toArray, List.set_cons_zero, List.set_cons_succ]
          refine Hd.take (i := 6) (v := ?tv419) hok rfl (by kernel_rfl) (fun _ _ _ h => h) (Or.inl ⟨by rfl, ?ty419⟩) (by assumption) ?tr419
          case ty419 => (intro w hSw; (try dsimp only at hSw); go_simp; (try with_reducible rfl))
          try simp only [List.getElem_toArray, List.getElem_cons_succ, List.getElem_cons_zero, Act.put, List.setIfInBounds_toArray, List.set_cons_zero, List.set_cons_succ]
          refine Hd.take (i := 7) (v := ?tv420) hok rfl (by kernel_rfl) (fun _ _ _ h => h) (Or.inl ⟨by rfl, ?ty420⟩) (by assumption) ?tr420
          case ty420 => (intro w hSw; (try dsimp only at hSw); go_simp; (try with_reducible rfl))
          try simp only [List.getElem_toArray, List.getElem_cons_succ, List.getElem_cons_zero, Act.put, List.setIfInBounds_toArray, List.set_cons_zero, List.set_cons_succ]
          refine Hd.take (i := 8) (v := ?tv421) hok rfl (by kernel_rfl) (fun _ _ _ h => h) (Or.inl ⟨by rfl, ?ty421⟩) (by assumption) ?tr421
          case ty421 => (intro w hSw; (try dsimp only at hSw); go_simp; (try with_reducible rfl))
          try simp only [List.getElem_toArray, List.getElem_cons_succ, List.getElem_cons_zero, Act.put, List.setIfInBounds_toArray, List.set_cons_zero, List.set_cons_succ]
          refine Hd.one (i := 9) rfl (by kernel_rfl) (fun K hK => ?_)
          go_simp
          refine hop.out.mono ?_
          rintro e w7 ⟨rfl, hb7⟩
          dsimp only
          have hz7 := hzd.below hb7.out
          clear hbL hbB
          obtain ⟨hbL, -⟩ := hz7.box 0 rfl
          obtain ⟨hbB, -⟩ := hz7.box 1 rfl
          have hS1 : w7.cell? ⟨MB, 3, none⟩ = some (.slice (some ⟨b, bo, none⟩) m.seats.length cs) ∧ w7.cell? ⟨Lb, 2, none⟩ = some (.int .i64 z.node) ∧ w7.cell? ⟨Lb, 4, none⟩ = some (.int .u64 z.try_) := ⟨box_cell hbB 3, box_cell hbL 2, box_cell hbL 4⟩
          refine hK _ _ hS1 ?_
          clear hK K hS0
          try simp only [List.getElem_toArray, List.getElem_cons_succ, List.getElem_cons_zero, Act.put, List.setIfInBounds_toArray, List.set_cons_zero, List.set_cons_succ]
          refine Hd.done (by kernel_rfl) ?_
          simp only [List.drop_succ_cons, List.drop_zero]
          have hzF := Lib.hid (hz7.sub (L' := [boxT MB [.slice ab nb cb, .int .u64 m.nv, .slice (some ⟨hb2, ho2, none⟩) m.homes.length ch, .slice (some ⟨b, bo, none⟩) m.seats.length cs, .int .u64 m.ns, .int .u64 m.sweeps].toArray 27]) (List.Sublist.cons _ (List.Sublist.refl _)))
          clear hok hS1 hbL hbB hzd hz7 hop hb7 hz6 htw
          go_wp2_with fail
          go_roundw
          case rel => exact ⟨j + 1, by go_num, by omega, hzF⟩
          case measure => simp [intOf] <;> omega
        · obtain rfl : j = m.seats.length := by omega
          have hbF := Lib.hid hz.out.bel
          clear hbB
          go_wp2_with fail
          go_ret
          first | exact ⟨rfl, hbF⟩ | (rw [← hMB]; exact ⟨rfl, hbF⟩)
end Go.Proofs.YtdobbfjmlnlieaaGreat
namespace Go.Proofs.YtdobbfjmlnlieaaGreat
set_option linter.unusedSimpArgs false
open Go.RowKit
attribute [local go_sem ↓] Go.wp_at_zero Go.wp_at_succ

theorem rd_take2 {α : Type} (R : RT α) {W : World} {a : Option Addr} {n c : Nat} {l : List α} (h : Rd W (.slice a n c) l.length (R.cells l)) {i : Nat} (hi : i ≤ l.length) : Rd W (.slice a (l.take i).length c) (l.take i).length (R.cells (l.take i)) := by
  obtain ⟨a', c', hv, h⟩ := h
  injection hv with e1 e2 e3
  subst e1 e3
  refine ⟨a, c, rfl, ?_⟩
  rcases h with h | ⟨b, o, ha, hb, hle, hc⟩
  · left; rw [List.length_take]; omega
  · refine .inr ⟨b, o, ha, hb, by rw [List.length_take]; omega, fun j u hu => hc j u ?_⟩
    have hsp : R.cells l = R.cells (l.take i) ++ R.cells (l.drop i) := by rw [← R.cells_app, List.take_append_drop]
    rw [hsp, List.getElem?_append_left (List.getElem?_eq_some_iff.1 hu).1]
    exact hu
/-- mailbox j of a row, and its cells -/
theorem bx_at {W : World} {v : Value} {l : List BxV} (h : BxsIn W v l) {j : Nat} (hj : j < l.length) : ∃ b bo cap, v = .slice (some ⟨b, bo, none⟩) l.length cap ∧ l.length ≤ cap ∧ ∀ W', Below W.heap.size W W' → W'.cell? ⟨b, bo + j * 5, none⟩ = some (.string l[j].name) ∧ W'.cell? ⟨b, bo + j * 5 + 1, none⟩ = some (.int .u64 l[j].validity) ∧ W'.cell? ⟨b, bo + j * 5 + 2, none⟩ = some (.int .u64 l[j].next) ∧ W'.cell? ⟨b, bo + j * 5 + 3, none⟩ = some (.int .u64 l[j].high) ∧ W'.cell? ⟨b, bo + j * 5 + 4, none⟩ = some (.slice l[j].a l[j].rows.length l[j].c) := by
  obtain ⟨b, bo, cap, hv, hcap, hbl, hc⟩ := bxT.rd_cells h.1 hj
  refine ⟨b, bo, cap, hv, hcap, fun W' hb => ?_⟩
  have hk : ∀ r u, (bxT.enc l[j])[r]? = some u → W'.cell? ⟨b, bo + j * 5 + r, none⟩ = some u := fun r u hu => by
    rw [Nat.add_assoc]
    exact (hb.cell (p := ⟨b, bo + (j * 5 + r), none⟩) hbl).trans (hc r u hu)
  exact ⟨hk 0 _ rfl, hk 1 _ rfl, hk 2 _ rfl, hk 3 _ rfl, hk 4 _ rfl⟩
set_option maxRecDepth 100000 in
set_option maxHeartbeats 16000000 in
theorem right_yes {W : World} (v : Value) {m : Ml} (hin : MlIn W v m) (hr : RightP m) : Calls Tryz.prog 27 #[v] W fun e w' => e = .returned (.bool true) ∧ Hid (Below W.heap.size W w') := by
  have hin0 : Hid (∀ w', Below W.heap.size W w' → MlIn w' v m) := Lib.hid (fun w' h => hin.below h)
  obtain ⟨vb, vh, vs, bs, rfl, hbs, hib, hih, his⟩ := hin
  have hib0 : ∀ w', Below W.heap.size W w' → BxsIn w' vb bs := fun w' h => hib.below h
  obtain ⟨ab, cb, rfl, -⟩ := hib.1
  obtain ⟨ah, ch, rfl, -⟩ := hih
  obtain ⟨as_, cs, rfl, -⟩ := his
  replace hib0 := Lib.hid hib0
  unfold mlVal at hin0 ⊢
  have hlb : bs.length = m.boxes.length := by rw [← hbs, List.length_map]
  have hz1 := (Zoo.nil W).newBox [.slice ab bs.length cb, .int .u64 m.nv, .slice ah m.homes.length ch, .slice as_ m.seats.length cs, .int .u64 m.ns, .int .u64 m.sweeps].toArray 27
  generalize hMB : W.heap.size = MB at hz1
  generalize hWa : (W.alloc (.cells [.slice ab bs.length cb, .int .u64 m.nv, .slice ah m.homes.length ch, .slice as_ m.seats.length cs, .int .u64 m.ns, .int .u64 m.sweeps].toArray 27)) = Wa at hz1
  obtain ⟨hbB, -⟩ := hz1.box 0 rfl
  have x0 : Wa.cell? ⟨MB, 0, none⟩ = some (.slice ab bs.length cb) := box_cell hbB 0
  have x1 : Wa.cell? ⟨MB, 1, none⟩ = some (.int .u64 m.nv) := box_cell hbB 1
  have x2 : Wa.cell? ⟨MB, 2, none⟩ = some (.slice ah m.homes.length ch) := box_cell hbB 2
  have x3 : Wa.cell? ⟨MB, 3, none⟩ = some (.slice as_ m.seats.length cs) := box_cell hbB 3
  have x4 : Wa.cell? ⟨MB, 4, none⟩ = some (.int .u64 m.ns) := box_cell hbB 4
  have x5 : Wa.cell? ⟨MB, 5, none⟩ = some (.int .u64 m.sweeps) := box_cell hbB 5
  have hpos : 1 ≤ bs.length := by
    obtain ⟨b, hb, -⟩ := hr.inbox
    have := List.length_pos_of_mem hb
    omega
  have l8 : bs.length ≤ 8 := by have := hr.lb; omega
  have q1 : decide ((bs.length : Int) < 1) = false := decide_eq_false (by omega)
  have q1' : decide (bs.length < 1) = false := decide_eq_false (by omega)
  have q2 : decide ((8 : Int) < (bs.length : Int)) = false := decide_eq_false (by omega)
  have q3 : decide ((4294967296 : Int) < (m.nv : Int)) = false := decide_eq_false (by have := hr.nv; omega)
  have q4 : decide ((m.ns : Int) < 1) = false := decide_eq_false (by have := hr.ns1; omega)
  have q5 : decide ((4611686018427387904 : Int) < (m.ns : Int)) = false := decide_eq_false (by have := hr.ns2; omega)
  have q6 : decide ((9223372036854775807 : Int) < (m.sweeps : Int)) = false := decide_eq_false (by have := hr.sw; omega)
  have q7 : decide ((16 : Int) < (m.seats.length : Int)) = false := decide_eq_false (by have := hr.ls; omega)
  replace hr := Lib.hid hr
  replace hz1 := Lib.hid hz1
  replace hbs := Lib.hid hbs
  replace hlb := Lib.hid hlb
  clear hib hbB
  go_enter Tryz.func27, Tryz.ntmps27
  go_upto_region 1 with fail
  clear hWa
  go_wp2_with fail
  clear x0 x1 x2 x3 x4 x5 q1 q1' q2 q3 q4 q5 q6 q7 hpos
  go_loopw [3, 46] (fun v3 v46 wr => ∃ (j : Nat) (ib : Bool), v46 = .int .i64 j ∧ v3 = .bool ib ∧ j ≤ bs.length ∧ Hid (ib = (m.boxes.take j).any isInbox) ∧ Hid (Zoo W wr [boxT MB [.slice ab bs.length cb, .int .u64 m.nv, .slice ah m.homes.length ch, .slice as_ m.seats.length cs, .int .u64 m.ns, .int .u64 m.sweeps].toArray 27])) (fun _ v46 _ => bs.length - (intOf v46).toNat)
  case atStart => exact ⟨0, false, rfl, rfl, Nat.zero_le _, Lib.hid (by simp), hz1⟩
  case round =>
    clear hz1
    obtain ⟨j, ib, rfl, rfl, hj, hib, hz⟩ := hrel
    obtain ⟨hbB, -⟩ := hz.out.box 0 rfl
    by_cases hlt : j < bs.length
    · have hin1 := hib0.out wr hz.out.bel
      obtain ⟨b, bo, cap, hv, hcap, hc⟩ := bx_at hin1 hlt
      injection hv with hv1 hv2 hv3
      subst hv1 hv3
      have hmx : m.boxes[j]? = some bs[j].b := by rw [← hbs.out, List.getElem?_map, List.getElem?_eq_getElem hlt]; rfl
      have hjm : j < m.boxes.length := (List.getElem?_eq_some_iff.1 hmx).1
      have hmx2 : m.boxes[j] = bs[j].b := (List.getElem?_eq_some_iff.1 hmx).2
      have hP := hr.out.boxes _ (List.getElem_mem hjm)
      rw [hmx2] at hP
      have hlets := hin1.2 _ (List.getElem_mem hlt)
      have hget : ∀ k (hk : k < bs.length), ∃ hm : k < m.boxes.length, m.boxes[k] = bs[k].b := fun k hk => by
        have h1 : m.boxes[k]? = some bs[k].b := by rw [← hbs.out, List.getElem?_map, List.getElem?_eq_getElem hk]; rfl
        exact List.getElem?_eq_some_iff.1 h1
      have hprev : 0 < j → ∃ u : ByteArray, (∀ W', Below wr.heap.size wr W' → W'.cell? ⟨b, bo + (j - 1) * 5, none⟩ = some (.string u)) ∧ Op.bytesLess u.toList bs[j].name.toList = true := by
        intro hjp
        have hkl : j - 1 < bs.length := by omega
        obtain ⟨b', bo', cap', hv', -, hc'⟩ := bx_at hin1 hkl
        injection hv' with h1 h2 h3
        injection h1 with h1
        injection h1 with h1 h4
        subst h1 h4
        refine ⟨bs[j - 1].name, fun W' hb => (hc' W' hb).1, ?_⟩
        obtain ⟨hm, e⟩ := hget (j - 1) hkl
        have := List.pairwise_iff_getElem.1 hr.out.names (j - 1) j hm hjm (by omega)
        rw [e, hmx2] at this
        rw [bytesLess_eq, ByteArray.toList_eq, ByteArray.toList_eq]
        exact this
      have htw : ∀ x ∈ bs.take j, x.validity ≠ bs[j].validity := by
        intro x hx
        obtain ⟨k, hk, rfl⟩ := List.mem_iff_getElem.1 hx
        rw [List.length_take] at hk
        rw [List.getElem_take]
        obtain ⟨hm, e⟩ := hget k (by omega)
        have := List.pairwise_iff_getElem.1 hr.out.vals k j hm hjm (by omega)
        rw [e, hmx2] at this
        exact this
      have hany : (m.boxes.take (j + 1)).any isInbox = ((m.boxes.take j).any isInbox || isInbox bs[j].b) := by rw [List.take_succ_eq_append_getElem hjm, List.any_append, hmx2]; simp
      obtain ⟨x, hx'⟩ : ∃ x, bs[j] = x := ⟨_, rfl⟩
      rw [hx'] at hc hP hprev hlets htw hany
      obtain ⟨r0, r1, r2, r3, r4⟩ := hc wr (Below.refl _ _)
      obtain ⟨tst, htst⟩ : ∃ tst, (x.name.toList == [73, 78, 66, 79, 88]) = tst := ⟨_, rfl⟩
      have hib2 : Hid ((ib || tst) = (m.boxes.take (j + 1)).any isInbox) := Lib.hid (by rw [hany, ← hib.out, ← htst]; unfold isInbox; rw [ByteArray.toList_eq]; rfl)
      have hcall : Hid (∀ w', Below wr.heap.size wr w' → Calls Tryz.prog 71 #[.agg #[.string x.name, .int .u64 x.validity, .int .u64 x.next, .int .u64 x.high, .slice x.a x.rows.length x.c], .int .u64 m.nv] w' fun e w2 => e = .returned (.bool true) ∧ Hid (Below w'.heap.size w' w2)) := Lib.hid (fun w' hb => boxRight_yes x m.nv hP (hlets.below hb))
      have hj0 : (0 : Int) ≤ (j : Int) := by omega
      have hj1 : (j : Int) < (bs.length : Int) := by omega
      have hjc : (j : Int) ≤ (cb : Int) := by omega
      have hjc3 : j ≤ cb := by omega
      have htake : Hid (∀ w', Below W.heap.size W w' → Rd w' (.slice (some ⟨b, bo, none⟩) (bs.take j).length cb) (bs.take j).length (bxT.cells (bs.take j))) := Lib.hid (fun w' h => rd_take2 bxT (hib0.out w' h).1 hj)
      rw [show (bs.take j).length = j from by rw [List.length_take]; omega] at htake
      replace hprev := Lib.hid hprev
      replace htw := Lib.hid htw
      have hzb := Lib.hid (hz.out.newBox [.string x.name, .int .u64 x.validity, .int .u64 x.next, .int .u64 x.high, .slice x.a x.rows.length x.c].toArray 48)
      have hbw := Lib.hid ((Below.refl wr.heap.size wr).alloc (Nat.le_refl _) (.cells [.string x.name, .int .u64 x.validity, .int .u64 x.next, .int .u64 x.high, .slice x.a x.rows.length x.c].toArray 48))
      clear hc hP hin1 hx' hbB hany hget hmx hmx2 hjm hlets hib
      go_upto_region 7 with fail
      generalize hLbE : wr.heap.size = Lb at hzb hprev hbw hcall ⊢
      generalize (wr.alloc (.cells [.string x.name, .int .u64 x.validity, .int .u64 x.next, .int .u64 x.high, .slice x.a x.rows.length x.c].toArray 48)) = wl at hzb hbw ⊢
      clear r0 r1 r2 r3 r4
      obtain ⟨hbL, -⟩ := hzb.out.box 0 rfl
      obtain ⟨hbB, -⟩ := hzb.out.box 1 rfl
      have y0 : wl.cell? ⟨Lb, 0, none⟩ = some (.string x.name) := box_cell hbL 0
      have x0 : wl.cell? ⟨MB, 0, none⟩ = some (.slice (some ⟨b, bo, none⟩) bs.length cb) := box_cell hbB 0
      have htwc := Lib.hid (noTwin_any (.slice (some ⟨b, bo, none⟩) j cb) (bs.take j) x.validity Lb (by rw [List.length_take]; omega) wl (by have := htake.out wl hzb.out.bel; rw [show (bs.take j).length = j from by rw [List.length_take]; omega]; exact this) (box_cell hbL 1) htw.out)
      clear hbL hbB
      go_cut [3] (fun v3 wx => v3 = .bool (ib || tst) ∧ wx = wl)
      case first =>
        cases ib with
        | true =>
          go_wp2_with fail
          go_meet
          case rel => exact ⟨rfl, rfl⟩
        | false =>
          cases tst with
          | true =>
            go_wp2_with fail
            go_meet
            case rel => exact ⟨rfl, rfl⟩
          | false =>
            go_wp2_with fail
            go_meet
            case rel => exact ⟨rfl, rfl⟩
      case rest =>
      obtain ⟨rfl, rfl⟩ := hcut
      clear htst
      go_wp2_with fail
      refine htwc.out.mono ?_
      rintro e w7 ⟨rfl, hb7⟩
      dsimp only
      have hz7 := Lib.hid (hzb.out.below hb7.out)
      have hbw7 := Lib.hid (hbw.out.trans (hb7.out.mono (by first | exact hbw.out.size | (rw [← hLbE]; exact hbw.out.size))))
      clear y0 x0 htwc hzb hbw hb7 htw htake hz
      go_upto_region 9 with fail
      have hzd := hz7.out.drew
      have hbd := hbw7.out.drew
      clear hz7 hbw7
      obtain ⟨hbL, -⟩ := hzd.box 0 rfl
      obtain ⟨hbB, -⟩ := hzd.box 1 rfl
      rcases Nat.eq_zero_or_pos j with rfl | hjp
      · clear hprev
        refine wp_region_hd (fun w' => w'.cell? ⟨Lb, 0, none⟩ = some (.string x.name) ∧ w'.cell? ⟨Lb, 1, none⟩ = some (.int .u64 x.validity) ∧ w'.cell? ⟨Lb, 2, none⟩ = some (.int .u64 x.next) ∧ w'.cell? ⟨Lb, 3, none⟩ = some (.int .u64 x.high) ∧ w'.cell? ⟨Lb, 4, none⟩ = some (.slice x.a x.rows.length x.c) ∧ w'.cell? ⟨MB, 0, none⟩ = some (.slice (some ⟨b, bo, none⟩) bs.length cb) ∧ w'.cell? ⟨MB, 1, none⟩ = some (.int .u64 m.nv)) 23 1 (by kernel_rfl) rfl ⟨by kernel_rfl, by kernel_rfl, by kernel_rfl, by decide⟩ ⟨box_cell hbL 0, box_cell hbL 1, box_cell hbL 2, box_cell hbL 3, box_cell hbL 4, box_cell hbB 0, box_cell hbB 1⟩ (fun hok hS0 => ?_)
        generalize w7.drew = Wd at *
        refine Hd.take (i := 0) (v := ?tv379) hok rfl (by kernel_rfl) (fun _ _ _ h => h) (Or.inl ⟨by rfl, ?ty379⟩) (by assumption) ?tr379
        case ty379 => (intro w hSw; (try dsimp only at hSw); go_simp; (try with_reducible rfl))
        try simp only [List.getElem_toArray, List.getElem_cons_succ, List.getElem_cons_zero, Act.put, List.setIfInBounds_toArray, List.set_cons_zero, List.set_cons_succ]
        refine Hd.take (i := 1) (v := ?tv380) hok rfl (by kernel_rfl) (fun _ _ _ h => h) (Or.inl ⟨by rfl, ?ty380⟩) (by assumption) ?tr380
        case ty380 => (intro w hSw; (try dsimp only at hSw); go_simp; (try with_reducible rfl))
        try simp only [List.getElem_toArray, List.getElem_cons_succ, List.getElem_cons_zero, Act.put, List.setIfInBounds_toArray, List.set_cons_zero, List.set_cons_succ]
        refine Hd.take (i := 2) (v := ?tv381) hok rfl (by kernel_rfl) (fun _ _ _ h => h) (Or.inl ⟨by rfl, ?ty381⟩) (by assumption) ?tr381
        case ty381 => (intro w hSw; (try dsimp only at hSw); go_simp; (try with_reducible rfl))
        try simp only [List.getElem_toArray, List.getElem_cons_succ, List.getElem_cons_zero, Act.put, List.setIfInBounds_toArray, List.set_cons_zero, List.set_cons_succ]
        refine Hd.take (i := 3) (v := ?tv382) hok rfl (by kernel_rfl) (fun _ _ _ h => h) (Or.inl ⟨by rfl, ?ty382⟩) (by assumption) ?tr382
        case ty382 => (intro w hSw; (try dsimp only at hSw); go_simp; (try with_reducible rfl))
        try simp only [List.getElem_toArray, List.getElem_cons_succ, List.getElem_cons_zero, Act.put, List.setIfInBounds_toArray, List.set_cons_zero, List.set_cons_succ]
        refine Hd.take (i := 4) (v := ?tv383) hok rfl (by kernel_rfl) (fun _ _ _ h => h) (Or.inl ⟨by rfl, ?ty383⟩) (by assumption) ?tr383
        case ty383 => (intro w hSw; (try dsimp only at hSw); go_simp; (try with_reducible rfl))
        try simp only [List.getElem_toArray, List.getElem_cons_succ, List.getElem_cons_zero, Act.put, List.setIfInBounds_toArray, List.set_cons_zero, List.set_cons_succ]
        refine Hd.one (i := 5) rfl (by kernel_rfl) (fun K hK => ?_)
        go_simp
        refine (hcall.out _ hbd).mono ?_
        rintro e w8 ⟨rfl, hb8⟩
        dsimp only
        have hz8 := hzd.below hb8.out
        have hbd8 := hbd.trans (hb8.out.mono (by first | exact hbd.size | (rw [← hLbE]; exact hbd.size)))
        clear hbL hbB
        obtain ⟨hbL, -⟩ := hz8.box 0 rfl
        obtain ⟨hbB, -⟩ := hz8.box 1 rfl
        have hS1 : w8.cell? ⟨Lb, 0, none⟩ = some (.string x.name) ∧ w8.cell? ⟨Lb, 1, none⟩ = some (.int .u64 x.validity) ∧ w8.cell? ⟨Lb, 2, none⟩ = some (.int .u64 x.next) ∧ w8.cell? ⟨Lb, 3, none⟩ = some (.int .u64 x.high) ∧ w8.cell? ⟨Lb, 4, none⟩ = some (.slice x.a x.rows.length x.c) ∧ w8.cell? ⟨MB, 0, none⟩ = some (.slice (some ⟨b, bo, none⟩) bs.length cb) ∧ w8.cell? ⟨MB, 1, none⟩ = some (.int .u64 m.nv) := ⟨box_cell hbL 0, box_cell hbL 1, box_cell hbL 2, box_cell hbL 3, box_cell hbL 4, box_cell hbB 0, box_cell hbB 1⟩
        refine hK _ _ hS1 ?_
        clear hK K hS0
        try simp only [List.getElem_toArray, List.getElem_cons_succ, List.getElem_cons_zero, Act.put, List.setIfInBounds_toArray, List.set_cons_zero, List.set_cons_succ]
        refine Hd.take (i := 6) (v := ?tv384) hok rfl (by kernel_rfl) (fun _ _ _ h => h) (Or.inl ⟨by rfl, ?ty384⟩) (by assumption) ?tr384
        case ty384 => (intro w hSw; (try dsimp only at hSw); go_simp; (try with_reducible rfl))
        try simp only [List.getElem_toArray, List.getElem_cons_succ, List.getElem_cons_zero, Act.put, List.setIfInBounds_toArray, List.set_cons_zero, List.set_cons_succ]
        refine Hd.take (i := 7) (v := ?tv385) hok rfl (by kernel_rfl) (fun _ _ _ h => h) (Or.inl ⟨by rfl, ?ty385⟩) (by assumption) ?tr385
        case ty385 => (intro w hSw; (try dsimp only at hSw); go_simp; (try with_reducible rfl))
        try simp only [List.getElem_toArray, List.getElem_cons_succ, List.getElem_cons_zero, Act.put, List.setIfInBounds_toArray, List.set_cons_zero, List.set_cons_succ]
        refine Hd.take (i := 8) (v := ?tv386) hok rfl (by kernel_rfl) (fun _ _ _ h => h) (Or.inl ⟨by rfl, ?ty386⟩) (by assumption) ?tr386
        case ty386 => (intro w hSw; (try dsimp only at hSw); go_simp; (try with_reducible rfl))
        try simp only [List.getElem_toArray, List.getElem_cons_succ, List.getElem_cons_zero, Act.put, List.setIfInBounds_toArray, List.set_cons_zero, List.set_cons_succ]
        refine Hd.take (i := 9) (v := ?tv387) hok rfl (by kernel_rfl) (fun _ _ _ h => h) (Or.inl ⟨by rfl, ?ty387⟩) (by assumption) ?tr387
        case ty387 => (intro w hSw; (try dsimp only at hSw); go_simp; (try with_reducible rfl))
        try simp only [List.getElem_toArray, List.getElem_cons_succ, List.getElem_cons_zero, Act.put, List.setIfInBounds_toArray, List.set_cons_zero, List.set_cons_succ]
        refine Hd.take (i := 10) (v := ?tv388) hok rfl (by kernel_rfl) (fun _ _ _ h => h) (Or.inl ⟨by rfl, ?ty388⟩) (by assumption) ?tr388
        case ty388 => (intro w hSw; (try dsimp only at hSw); go_simp; (try with_reducible rfl))
        try simp only [List.getElem_toArray, List.getElem_cons_succ, List.getElem_cons_zero, Act.put, List.setIfInBounds_toArray, List.set_cons_zero, List.set_cons_succ]
        refine Hd.take (i := 11) (v := ?tv389) hok rfl (by kernel_rfl) (fun _ _ _ h => h) (Or.inl ⟨by rfl, ?ty389⟩) (by assumption) ?tr389
        case ty389 => (intro w hSw; (try dsimp only at hSw); go_simp; (try with_reducible rfl))
        try simp only [List.getElem_toArray, List.getElem_cons_succ, List.getElem_cons_zero, Act.put, List.setIfInBounds_toArray, List.set_cons_zero, List.set_cons_succ]
        refine Hd.take (i := 12) (v := _) hok rfl (by kernel_rfl) (fun _ _ _ h => h) (Or.inr ⟨by rfl, rfl⟩) (by assumption) ?_
        try simp only [List.getElem_toArray, List.getElem_cons_succ, List.getElem_cons_zero, Act.put, List.setIfInBounds_toArray, List.set_cons_zero, List.set_cons_succ]
        refine Hd.take (i := 13) (v := _) hok rfl (by kernel_rfl) (fun _ _ _ h => h) (Or.inr ⟨by rfl, rfl⟩) (by assumption) ?_
        try simp only [List.getElem_toArray, List.getElem_cons_succ, List.getElem_cons_zero, Act.put, List.setIfInBounds_toArray, List.set_cons_zero, List.set_cons_succ]
        refine Hd.take (i := 14) (v := _) hok rfl (by kernel_rfl) (fun _ _ _ h => h) (Or.inr ⟨by rfl, rfl⟩) (by assumption) ?_
        try simp only [List.getElem_toArray, List.getElem_cons_succ, List.getElem_cons_zero, Act.put, List.setIfInBounds_toArray, List.set_cons_zero, List.set_cons_succ]
        refine Hd.take (i := 15) (v := _) hok rfl (by kernel_rfl) (fun _ _ _ h => h) (Or.inr ⟨by rfl, rfl⟩) (by assumption) ?_
        try simp only [List.getElem_toArray, List.getElem_cons_succ, List.getElem_cons_zero, Act.put, List.setIfInBounds_toArray, List.set_cons_zero, List.set_cons_succ]
        refine Hd.take (i := 16) (v := _) hok rfl (by kernel_rfl) (fun _ _ _ h => h) (Or.inr ⟨by rfl, rfl⟩) (by assumption) ?_
        try simp only [List.getElem_toArray, List.getElem_cons_succ, List.getElem_cons_zero, Act.put, List.setIfInBounds_toArray, List.set_cons_zero, List.set_cons_succ]
        refine Hd.take (i := 17) (v := _) hok rfl (by kernel_rfl) (fun _ _ _ h => h) (Or.inr ⟨by rfl, rfl⟩) (by assumption) ?_
        try simp only [List.getElem_toArray, List.getElem_cons_succ, List.getElem_cons_zero, Act.put, List.setIfInBounds_toArray, List.set_cons_zero, List.set_cons_succ]
        refine Hd.take (i := 18) (v := _) hok rfl (by kernel_rfl) (fun _ _ _ h => h) (Or.inr ⟨by rfl, rfl⟩) (by assumption) ?_
        try simp only [List.getElem_toArray, List.getElem_cons_succ, List.getElem_cons_zero, Act.put, List.setIfInBounds_toArray, List.set_cons_zero, List.set_cons_succ]
        refine Hd.take (i := 19) (v := _) hok rfl (by kernel_rfl) (fun _ _ _ h => h) (Or.inr ⟨by rfl, rfl⟩) (by assumption) ?_
        try simp only [List.getElem_toArray, List.getElem_cons_succ, List.getElem_cons_zero, Act.put, List.setIfInBounds_toArray, List.set_cons_zero, List.set_cons_succ]
        refine Hd.take (i := 20) (v := _) hok rfl (by kernel_rfl) (fun _ _ _ h => h) (Or.inr ⟨by rfl, rfl⟩) (by assumption) ?_
        try simp only [List.getElem_toArray, List.getElem_cons_succ, List.getElem_cons_zero, Act.put, List.setIfInBounds_toArray, List.set_cons_zero, List.set_cons_succ]
        refine Hd.take (i := 21) (v := _) hok rfl (by kernel_rfl) (fun _ _ _ h => h) (Or.inr ⟨by rfl, rfl⟩) (by assumption) ?_
        try simp only [List.getElem_toArray, List.getElem_cons_succ, List.getElem_cons_zero, Act.put, List.setIfInBounds_toArray, List.set_cons_zero, List.set_cons_succ]
        refine Hd.take (i := 22) (v := ?tv390) hok rfl (by kernel_rfl) (fun _ _ _ h => h) (Or.inl ⟨by rfl, ?ty390⟩) (by assumption) ?tr390
        case ty390 => (intro w hSw; (try dsimp only at hSw); go_simp; (try with_reducible rfl))
        try simp only [List.getElem_toArray, List.getElem_cons_succ, List.getElem_cons_zero, Act.put, List.setIfInBounds_toArray, List.set_cons_zero, List.set_cons_succ]
        refine Hd.done (by kernel_rfl) ?_
        simp only [List.drop_succ_cons, List.drop_zero]
        have hzF := Lib.hid (hz8.sub (L' := [boxT MB [.slice (some ⟨b, bo, none⟩) bs.length cb, .int .u64 m.nv, .slice ah m.homes.length ch, .slice as_ m.seats.length cs, .int .u64 m.ns, .int .u64 m.sweeps].toArray 27]) (List.Sublist.cons _ (List.Sublist.refl _)))
        clear hok hbL hbB hzd hz8 hcall hb8 hS1
        go_wp2_with fail
        go_roundw
        case rel => exact ⟨0 + 1, ib || tst, by go_num, rfl, by omega, hib2, hzF⟩
        case measure => simp [intOf] <;> omega
      · obtain ⟨u, hpc, hpu⟩ := hprev.out hjp
        have hp1 : (0 : Int) < (j : Int) := by omega
        have hp2 : (0 : Int) ≤ (j : Int) - 1 := by omega
        have hp3 : (j : Int) - 1 < (bs.length : Int) := by omega
        have hp4 : IntKind.i64.wrap ((j : Int) - 1) = (j : Int) - 1 := IntWalk.i64_in _ (by omega)
        have hp5 : ((j : Int) - 1).toNat = j - 1 := by omega
        have hp6 : (1 : Int) ≤ (j : Int) := by omega
        clear hprev
        refine wp_region_hd (fun w' => w'.cell? ⟨Lb, 0, none⟩ = some (.string x.name) ∧ w'.cell? ⟨Lb, 1, none⟩ = some (.int .u64 x.validity) ∧ w'.cell? ⟨Lb, 2, none⟩ = some (.int .u64 x.next) ∧ w'.cell? ⟨Lb, 3, none⟩ = some (.int .u64 x.high) ∧ w'.cell? ⟨Lb, 4, none⟩ = some (.slice x.a x.rows.length x.c) ∧ w'.cell? ⟨MB, 0, none⟩ = some (.slice (some ⟨b, bo, none⟩) bs.length cb) ∧ w'.cell? ⟨MB, 1, none⟩ = some (.int .u64 m.nv) ∧ w'.cell? ⟨b, bo + (j - 1) * 5, none⟩ = some (.string u)) 23 1 (by kernel_rfl) rfl ⟨by kernel_rfl, by kernel_rfl, by kernel_rfl, by decide⟩ ⟨box_cell hbL 0, box_cell hbL 1, box_cell hbL 2, box_cell hbL 3, box_cell hbL 4, box_cell hbB 0, box_cell hbB 1, hpc _ hbd⟩ (fun hok hS0 => ?_)
        generalize w7.drew = Wd at *
        refine Hd.take (i := 0) (v := ?tv391) hok rfl (by kernel_rfl) (fun _ _ _ h => h) (Or.inl ⟨by rfl, ?ty391⟩) (by assumption) ?tr391
        case ty391 => (intro w hSw; (try dsimp only at hSw); go_simp; (try with_reducible rfl))
        try simp only [List.getElem_toArray, List.getElem_cons_succ, List.getElem_cons_zero, Act.put, List.setIfInBounds_toArray, List.set_cons_zero, List.set_cons_succ]
        refine Hd.take (i := 1) (v := ?tv392) hok rfl (by kernel_rfl) (fun _ _ _ h => h) (Or.inl ⟨by rfl, ?ty392⟩) (by assumption) ?tr392
        case ty392 => (intro w hSw; (try dsimp only at hSw); go_simp; (try with_reducible rfl))
        try simp only [List.getElem_toArray, List.getElem_cons_succ, List.getElem_cons_zero, Act.put, List.setIfInBounds_toArray, List.set_cons_zero, List.set_cons_succ]
        refine Hd.take (i := 2) (v := ?tv393) hok rfl (by kernel_rfl) (fun _ _ _ h => h) (Or.inl ⟨by rfl, ?ty393⟩) (by assumption) ?tr393
        case ty393 => (intro w hSw; (try dsimp only at hSw); go_simp; (try with_reducible rfl))
        try simp only [List.getElem_toArray, List.getElem_cons_succ, List.getElem_cons_zero, Act.put, List.setIfInBounds_toArray, List.set_cons_zero, List.set_cons_succ]
        refine Hd.take (i := 3) (v := ?tv394) hok rfl (by kernel_rfl) (fun _ _ _ h => h) (Or.inl ⟨by rfl, ?ty394⟩) (by assumption) ?tr394
        case ty394 => (intro w hSw; (try dsimp only at hSw); go_simp; (try with_reducible rfl))
        try simp only [List.getElem_toArray, List.getElem_cons_succ, List.getElem_cons_zero, Act.put, List.setIfInBounds_toArray, List.set_cons_zero, List.set_cons_succ]
        refine Hd.take (i := 4) (v := ?tv395) hok rfl (by kernel_rfl) (fun _ _ _ h => h) (Or.inl ⟨by rfl, ?ty395⟩) (by assumption) ?tr395
        case ty395 => (intro w hSw; (try dsimp only at hSw); go_simp; (try with_reducible rfl))
        try simp only [List.getElem_toArray, List.getElem_cons_succ, List.getElem_cons_zero, Act.put, List.setIfInBounds_toArray, List.set_cons_zero, List.set_cons_succ]
        refine Hd.one (i := 5) rfl (by kernel_rfl) (fun K hK => ?_)
        go_simp
        refine (hcall.out _ hbd).mono ?_
        rintro e w8 ⟨rfl, hb8⟩
        dsimp only
        have hz8 := hzd.below hb8.out
        have hbd8 := hbd.trans (hb8.out.mono (by first | exact hbd.size | (rw [← hLbE]; exact hbd.size)))
        clear hbL hbB
        obtain ⟨hbL, -⟩ := hz8.box 0 rfl
        obtain ⟨hbB, -⟩ := hz8.box 1 rfl
        have hS1 : w8.cell? ⟨Lb, 0, none⟩ = some (.string x.name) ∧ w8.cell? ⟨Lb, 1, none⟩ = some (.int .u64 x.validity) ∧ w8.cell? ⟨Lb, 2, none⟩ = some (.int .u64 x.next) ∧ w8.cell? ⟨Lb, 3, none⟩ = some (.int .u64 x.high) ∧ w8.cell? ⟨Lb, 4, none⟩ = some (.slice x.a x.rows.length x.c) ∧ w8.cell? ⟨MB, 0, none⟩ = some (.slice (some ⟨b, bo, none⟩) bs.length cb) ∧ w8.cell? ⟨MB, 1, none⟩ = some (.int .u64 m.nv) ∧ w8.cell? ⟨b, bo + (j - 1) * 5, none⟩ = some (.string u) := ⟨box_cell hbL 0, box_cell hbL 1, box_cell hbL 2, box_cell hbL 3, box_cell hbL 4, box_cell hbB 0, box_cell hbB 1, hpc _ hbd8⟩
        refine hK _ _ hS1 ?_
        clear hK K hS0
        try simp only [List.getElem_toArray, List.getElem_cons_succ, List.getElem_cons_zero, Act.put, List.setIfInBounds_toArray, List.set_cons_zero, List.set_cons_succ]
        refine Hd.take (i := 6) (v := ?tv396) hok rfl (by kernel_rfl) (fun _ _ _ h => h) (Or.inl ⟨by rfl, ?ty396⟩) (by assumption) ?tr396
        case ty396 => (intro w hSw; (try dsimp only at hSw); go_simp; (try with_reducible rfl))
        try simp only [List.getElem_toArray, List.getElem_cons_succ, List.getElem_cons_zero, Act.put, List.setIfInBounds_toArray, List.set_cons_zero, List.set_cons_succ]
        refine Hd.take (i := 7) (v := ?tv397) hok rfl (by kernel_rfl) (fun _ _ _ h => h) (Or.inl ⟨by rfl, ?ty397⟩) (by assumption) ?tr397
        case ty397 => (intro w hSw; (try dsimp only at hSw); go_simp; (try with_reducible rfl))
        try simp only [List.getElem_toArray, List.getElem_cons_succ, List.getElem_cons_zero, Act.put, List.setIfInBounds_toArray, List.set_cons_zero, List.set_cons_succ]
        refine Hd.take (i := 8) (v := ?tv398) hok rfl (by kernel_rfl) (fun _ _ _ h => h) (Or.inl ⟨by rfl, ?ty398⟩) (by assumption) ?tr398
        case ty398 => (intro w hSw; (try dsimp only at hSw); go_simp; (try with_reducible rfl))
        try simp only [List.getElem_toArray, List.getElem_cons_succ, List.getElem_cons_zero, Act.put, List.setIfInBounds_toArray, List.set_cons_zero, List.set_cons_succ]
        refine Hd.take (i := 9) (v := ?tv399) hok rfl (by kernel_rfl) (fun _ _ _ h => h) (Or.inl ⟨by rfl, ?ty399⟩) (by assumption) ?tr399
        case ty399 => (intro w hSw; (try dsimp only at hSw); go_simp; (try with_reducible rfl))
        try simp only [List.getElem_toArray, List.getElem_cons_succ, List.getElem_cons_zero, Act.put, List.setIfInBounds_toArray, List.set_cons_zero, List.set_cons_succ]
        refine Hd.take (i := 10) (v := ?tv400) hok rfl (by kernel_rfl) (fun _ _ _ h => h) (Or.inl ⟨by rfl, ?ty400⟩) (by assumption) ?tr400
        case ty400 => (intro w hSw; (try dsimp only at hSw); go_simp; (try with_reducible rfl))
        try simp only [List.getElem_toArray, List.getElem_cons_succ, List.getElem_cons_zero, Act.put, List.setIfInBounds_toArray, List.set_cons_zero, List.set_cons_succ]
        refine Hd.take (i := 11) (v := ?tv401) hok rfl (by kernel_rfl) (fun _ _ _ h => h) (Or.inl ⟨by rfl, ?ty401⟩) (by assumption) ?tr401
        case ty401 => (intro w hSw; (try dsimp only at hSw); go_simp; (try with_reducible rfl))
        try simp only [List.getElem_toArray, List.getElem_cons_succ, List.getElem_cons_zero, Act.put, List.setIfInBounds_toArray, List.set_cons_zero, List.set_cons_succ]
        refine Hd.take (i := 12) (v := ?tv402) hok rfl (by kernel_rfl) (fun _ _ _ h => h) (Or.inl ⟨by rfl, ?ty402⟩) (by assumption) ?tr402
        case ty402 => (intro w hSw; (try dsimp only at hSw); go_simp; (try with_reducible rfl))
        try simp only [List.getElem_toArray, List.getElem_cons_succ, List.getElem_cons_zero, Act.put, List.setIfInBounds_toArray, List.set_cons_zero, List.set_cons_succ]
        refine Hd.take (i := 13) (v := ?tv403) hok rfl (by kernel_rfl) (fun _ _ _ h => h) (Or.inl ⟨by rfl, ?ty403⟩) (by assumption) ?tr403
        case ty403 => (intro w hSw; (try dsimp only at hSw); go_simp; (try with_reducible rfl))
        try simp only [List.getElem_toArray, List.getElem_cons_succ, List.getElem_cons_zero, Act.put, List.setIfInBounds_toArray, List.set_cons_zero, List.set_cons_succ]
        refine Hd.take (i := 14) (v := ?tv404) hok rfl (by kernel_rfl) (fun _ _ _ h => h) (Or.inl ⟨by rfl, ?ty404⟩) (by assumption) ?tr404
        case ty404 => (intro w hSw; (try dsimp only at hSw); go_simp; (try with_reducible rfl))
        try simp only [List.getElem_toArray, List.getElem_cons_succ, List.getElem_cons_zero, Act.put, List.setIfInBounds_toArray, List.set_cons_zero, List.set_cons_succ]
        refine Hd.take (i := 15) (v := ?tv405) hok rfl (by kernel_rfl) (fun _ _ _ h => h) (Or.inl ⟨by rfl, ?ty405⟩) (by assumption) ?tr405
        case ty405 => (intro w hSw; (try dsimp only at hSw); go_simp; (try with_reducible rfl))
        try simp only [List.getElem_toArray, List.getElem_cons_succ, List.getElem_cons_zero, Act.put, List.setIfInBounds_toArray, List.set_cons_zero, List.set_cons_succ]
        refine Hd.take (i := 16) (v := ?tv406) hok rfl (by kernel_rfl) (fun _ _ _ h => h) (Or.inl ⟨by rfl, ?ty406⟩) (by assumption) ?tr406
        case ty406 => (intro w hSw; (try dsimp only at hSw); go_simp; (try with_reducible rfl))
        try simp only [List.getElem_toArray, List.getElem_cons_succ, List.getElem_cons_zero, Act.put, List.setIfInBounds_toArray, List.set_cons_zero, List.set_cons_succ]
        refine Hd.take (i := 17) (v := ?tv407) hok rfl (by kernel_rfl) (fun _ _ _ h => h) (Or.inl ⟨by rfl, ?ty407⟩) (by assumption) ?tr407
        case ty407 => (intro w hSw; (try dsimp only at hSw); go_simp; (try with_reducible rfl))
        try simp only [List.getElem_toArray, List.getElem_cons_succ, List.getElem_cons_zero, Act.put, List.setIfInBounds_toArray, List.set_cons_zero, List.set_cons_succ]
        refine Hd.take (i := 18) (v := ?tv408) hok rfl (by kernel_rfl) (fun _ _ _ h => h) (Or.inl ⟨by rfl, ?ty408⟩) (by assumption) ?tr408
        case ty408 => (intro w hSw; (try dsimp only at hSw); go_simp; (try with_reducible rfl))
        try simp only [List.getElem_toArray, List.getElem_cons_succ, List.getElem_cons_zero, Act.put, List.setIfInBounds_toArray, List.set_cons_zero, List.set_cons_succ]
        refine Hd.take (i := 19) (v := ?tv409) hok rfl (by kernel_rfl) (fun _ _ _ h => h) (Or.inl ⟨by rfl, ?ty409⟩) (by assumption) ?tr409
        case ty409 => (intro w hSw; (try dsimp only at hSw); go_simp; (try with_reducible rfl))
        try simp only [List.getElem_toArray, List.getElem_cons_succ, List.getElem_cons_zero, Act.put, List.setIfInBounds_toArray, List.set_cons_zero, List.set_cons_succ]
        refine Hd.take (i := 20) (v := ?tv410) hok rfl (by kernel_rfl) (fun _ _ _ h => h) (Or.inl ⟨by rfl, ?ty410⟩) (by assumption) ?tr410
        case ty410 => (intro w hSw; (try dsimp only at hSw); go_simp; (try with_reducible rfl))
        try simp only [List.getElem_toArray, List.getElem_cons_succ, List.getElem_cons_zero, Act.put, List.setIfInBounds_toArray, List.set_cons_zero, List.set_cons_succ]
        refine Hd.take (i := 21) (v := ?tv411) hok rfl (by kernel_rfl) (fun _ _ _ h => h) (Or.inl ⟨by rfl, ?ty411⟩) (by assumption) ?tr411
        case ty411 => (intro w hSw; (try dsimp only at hSw); go_simp; (try with_reducible rfl))
        try simp only [List.getElem_toArray, List.getElem_cons_succ, List.getElem_cons_zero, Act.put, List.setIfInBounds_toArray, List.set_cons_zero, List.set_cons_succ]
        refine Hd.take (i := 22) (v := ?tv412) hok rfl (by kernel_rfl) (fun _ _ _ h => h) (Or.inl ⟨by rfl, ?ty412⟩) (by assumption) ?tr412
        case ty412 => (intro w hSw; (try dsimp only at hSw); go_simp; (try with_reducible rfl))
        try simp only [List.getElem_toArray, List.getElem_cons_succ, List.getElem_cons_zero, Act.put, List.setIfInBounds_toArray, List.set_cons_zero, List.set_cons_succ]
        refine Hd.done (by kernel_rfl) ?_
        simp only [List.drop_succ_cons, List.drop_zero]
        have hzF := Lib.hid (hz8.sub (L' := [boxT MB [.slice (some ⟨b, bo, none⟩) bs.length cb, .int .u64 m.nv, .slice ah m.homes.length ch, .slice as_ m.seats.length cs, .int .u64 m.ns, .int .u64 m.sweeps].toArray 27]) (List.Sublist.cons _ (List.Sublist.refl _)))
        clear hok hbL hbB hzd hz8 hcall hb8 hS1
        go_wp2_with fail
        go_roundw
        case rel => exact ⟨j + 1, ib || tst, by go_num, rfl, by omega, hib2, hzF⟩
        case measure => simp [intOf] <;> omega
    · obtain rfl : j = bs.length := by omega
      have hibT : ib = true := by
        rw [hib.out, hlb.out, List.take_length, List.any_eq_true]
        obtain ⟨b, hb, e⟩ := hr.out.inbox
        exact ⟨b, hb, by unfold isInbox; rw [e]; simp⟩
      subst hibT
      have x0 : wr.cell? ⟨MB, 0, none⟩ = some (.slice ab bs.length cb) := box_cell hbB 0
      have x1 : wr.cell? ⟨MB, 1, none⟩ = some (.int .u64 m.nv) := box_cell hbB 1
      have x2 : wr.cell? ⟨MB, 2, none⟩ = some (.slice ah m.homes.length ch) := box_cell hbB 2
      have x3 : wr.cell? ⟨MB, 3, none⟩ = some (.slice as_ m.seats.length cs) := box_cell hbB 3
      have x4 : wr.cell? ⟨MB, 4, none⟩ = some (.int .u64 m.ns) := box_cell hbB 4
      have x5 : wr.cell? ⟨MB, 5, none⟩ = some (.int .u64 m.sweeps) := box_cell hbB 5
      have hsr := Lib.hid (seatsRight_yes _ (hin0.out wr hz.out.bel) hr.out)
      clear hbB hib
      go_wp2_with fail
      refine hsr.out.mono ?_
      rintro e w8 ⟨rfl, hb8⟩
      dsimp only
      have hbF := Lib.hid (hz.out.below hb8.out).bel
      clear x0 x1 x2 x3 x4 x5 hsr hz hb8
      go_wp2_with fail
      go_ret
      first | exact ⟨rfl, hbF⟩ | (rw [← hMB]; exact ⟨rfl, hbF⟩)
end Go.Proofs.YtdobbfjmlnlieaaGreat
