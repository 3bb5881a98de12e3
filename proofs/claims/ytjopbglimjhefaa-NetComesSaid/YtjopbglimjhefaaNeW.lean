/- NetComes: walked. -/
import Derived.Test.YtjopbglimjhefaaNeV
namespace Go.Proofs.Ytjopbglimjhefaa
open Go.RowKit Go.Maps Go.WideMaps

theorem Zoo.apart2 {W0 W : World} {L : List Th} {B B' : Nat} {C C' : Array Value} {t t' : TypeId} {x : Th} (h : Zoo W0 W (boxT B C t :: boxT B' C' t' :: L)) (_ : x = x) : B ≠ B' := by
  obtain ⟨_, P, h1, h2⟩ := h
  rcases P with _ | ⟨a, _ | ⟨c, P⟩⟩
  · simp at h1
  · simp at h1
  · simp only [List.map_cons, List.cons.injEq] at h1
    obtain ⟨e1, e2, _⟩ := h1
    have ha := h2.holds a (by simp)
    have hc := h2.holds c (by simp)
    rw [e1] at ha
    rw [e2] at hc
    have hp := (List.pairwise_cons.1 h2.apart).1 c (by simp)
    intro e
    exact hp B ((ha.2 B).2 rfl) ((hc.2 B).2 e)
set_option maxRecDepth 100000 in
set_option maxHeartbeats 8000000 in
theorem netComes_any (v : Value) (acts : List ActD) (W : World) (hin : ActsIn W v acts) : Calls Try.prog 4 #[v] W fun e w' => e = .returned (.bool true) ∧ Below W.heap.size W w' := by
  have hal := Lib.hid (alive_any W)
  replace hin := Lib.hid hin
  go_enter Try.func4, Try.ntmps4
  go_wp2_with fail
  refine hal.out.mono ?_
  rintro e w1 ⟨rfl, hB1⟩
  have hc := Lib.hid (new_zoo (Zoo.nil w1))
  clear hal
  go_wp2_with fail
  refine hc.out.mono ?_
  rintro e w2 ⟨b, rfl, hz⟩
  clear hc
  have hin1 := hin.out.below hB1.out
  have hc := Lib.hid (run_any b Ns.new v acts (NOk.new 1000) hz (hin1.below hz.bel) (fun W' h => hin1.below h.bel))
  clear hz hin1
  go_wp2_with fail
  refine hc.out.mono ?_
  rintro e w3 ⟨vs, vc, sn, cm, s0, rfl, hz, hrun⟩
  have hz0 : Hid (Zoo w1 w3 [netT b s0]) := Lib.hid (hz.out.sub (by simp))
  have hsl : sn.length ≤ 200 := by have := hrun.out.short.1; rw [List.length_take] at this; omega
  have hids := Lib.hid (hrun.out.once.ids (by omega))
  have hdue := Lib.hid (hrun.out.due DueI.new)
  have hok := hrun.out.ok (NOk.new 0)
  have htk : (acts.take 200).length ≤ 200 := by rw [List.length_take]; omega
  have hnow : s0.now ≤ 200 := by have := hok.now; omega
  have hN : s0.N ≤ 200 := by have := hok.N; omega
  replace hok := Lib.hid hok
  clear hc hz hrun hin htk hsl
  go_wp2_with fail
  go_loopw [4] (fun v4 wr => ∃ (a : Nat) (s : Ns), v4 = .int .i64 a ∧ 1 ≤ a ∧ a ≤ 6 ∧ Hid (Zoo w1 wr [netT b s]) ∧ Hid (Mend s0 s a 1)) (fun v4 _ => 6 - (intOf v4).toNat)
  case atStart => exact ⟨1, s0, rfl, by omega, by omega, hz0, Lib.hid (Mend.start s0)⟩
  case round =>
    clear hz0
    obtain ⟨a, s, rfl, ha1, ha6, hz, hm⟩ := hrel
    by_cases ha : a ≤ 5
    · have ha' : (a : Int) ≤ 5 := by omega
      go_wp2_with fail
      go_loopw [5] (fun v5 wr2 => ∃ (c : Nat) (s : Ns), v5 = .int .i64 c ∧ 1 ≤ c ∧ c ≤ a ∧ Hid (Zoo w1 wr2 [netT b s]) ∧ Hid (Mend s0 s a c)) (fun v5 _ => 6 - (intOf v5).toNat)
      case atStart => exact ⟨1, s, rfl, by omega, by omega, hz, hm⟩
      case round =>
        clear hz hm
        obtain ⟨c, s, rfl, hc1, hca, hz, hm⟩ := hrel
        by_cases hc : c < a
        · have hc' : (c : Int) < (a : Int) := by omega
          have hm2 := Lib.hid (hm.out.step (by omega) hc' ha')
          have hcall := Lib.hid (cut_zoo hz.out 0 b s rfl (by have := hm.out.N; omega) a c false)
          go_wp2_with fail
          refine hcall.out.mono ?_
          rintro e w4 ⟨rfl, hz4⟩
          clear hcall hz hm
          go_wp2_with fail
          go_roundw
          case rel => exact ⟨c + 1, _, by go_num, by omega, by omega, Lib.hid hz4, hm2⟩
          case measure => simp [intOf] <;> omega
        · have hc' : (a : Int) ≤ (c : Int) := by omega
          have hm2 := Lib.hid (hm.out.row hc' (by omega))
          go_wp2_with fail
          go_roundw
          case rel => exact ⟨a + 1, s, by go_num, by omega, by omega, hz, hm2⟩
          case measure => simp [intOf] <;> omega
    · have ha' : (5 : Int) < (a : Int) := by omega
      have hC := Lib.hid (fun x y (h : Lk x y) => hm.out.C x y h (.inl (by unfold Lk at h; omega)))
      have hlen : s.l.length ≤ 512 := by rw [hm.out.l]; exact hok.out.len
      have hcall := Lib.hid (all_zoo hz.out 0 b s rfl hlen (fun p hp => by have := hids.out p (by rw [← hm.out.l]; exact hp); omega))
      have hI : Hid (ComeI s0.now 0 s Pk.zero) := Lib.hid ⟨hlen, by rw [hm.out.l]; exact hok.out.good, by rw [hm.out.now]; rfl, hC.out, by rw [hm.out.l]; exact hids.out, by rw [hm.out.l]; exact hdue.out, fun h => by omega, fun p hp => by
        rw [hm.out.l] at hp
        have h1 := hids.out p hp
        have h2 := hdue.out p hp
        unfold leP ltP
        show ¬ (p.due < 0 ∨ (p.due = 0 ∧ p.id < 0))
        omega⟩
      clear hm hC
      go_wp2_with fail
      refine hcall.out.mono ?_
      rintro e w4 ⟨va, la, rfl, hla, hz4⟩
      obtain ⟨ao, cap, hva⟩ := (hz4.row 0 rfl).len
      have hl2 := hla.out.1.length_eq
      subst hva
      have hz5 := Lib.hid (hz4.tail.newBox (pkArr Pk.zero) 30)
      rw [hl2]
      clear hcall hz4 hla hl2 hz
      simp only [pkArr, Pk.zero] at hz5
      go_wp2_with fail
      generalize w4.heap.size = B7 at hz5 ⊢
      generalize w4.alloc (.cells #[.int .i64 0, .int .i64 0, .int .i64 0, .string ⟨#[]⟩, .int .i64 0] 30) = w5 at hz5 ⊢
      have hz6 : Hid (Zoo w1 w5 [boxT B7 (pkArr Pk.zero) 30, netT b s]) := hz5
      clear hz5 hlen hids hdue hok
      go_loopw [6, 8] (fun v6 v8 wr => ∃ (t : Nat) (s : Ns) (last : Pk), v8 = .int .i64 t ∧ t ≤ 101 ∧ v6 = .int .i64 s.l.length ∧ Hid (Zoo w1 wr [boxT B7 (pkArr last) 30, netT b s]) ∧ Hid (ComeI s0.now t s last)) (fun _ v8 _ => 101 - (intOf v8).toNat)
      case atStart => exact ⟨0, s, Pk.zero, rfl, by omega, rfl, hz6, hI⟩
      case round =>
        clear hz6 hI
        obtain ⟨t, s, last, rfl, ht, rfl, hz, hI⟩ := hrel
        by_cases htl : t ≤ 100
        · have ht' : (t : Int) ≤ 100 := by omega
          go_wp2_with fail
          go_loopw [6] (fun v6 wr => ∃ (s : Ns) (last : Pk), v6 = .int .i64 s.l.length ∧ Hid (Zoo w1 wr [boxT B7 (pkArr last) 30, netT b s]) ∧ Hid (ComeI s0.now t s last)) (fun v6 _ => (intOf v6).toNat)
          case atStart => exact ⟨s, last, rfl, hz, hI⟩
          case round =>
            clear hz hI
            obtain ⟨s, last, rfl, hz, hI⟩ := hrel
            have hcall := Lib.hid (next_zoo2 hz.out 1 b s rfl hI.out.len hI.out.good)
            have hlen := hI.out.len
            clear hz
            go_wp2_with fail
            refine hcall.out.mono ?_
            rintro e w6 ⟨ok, q, l2, rfl, hr, hz⟩
            have hz : Zoo w1 w6 [boxT B7 (pkArr last) 30, netT b (withL s l2)] := hz
            clear hcall
            cases ok
            · rcases hI.out.next hr.out with ⟨_, rfl, hlate⟩ | ⟨p, h, _⟩
              · have hI2 := Lib.hid (hI.out.none hlate)
                have hz7 := hz.alloc (.cells (pkArr q) 30)
                have hcall := Lib.hid (tick_zoo hz7 1 b (withL s s.l) rfl (by have := hI.out.now; show s.now < _; omega))
                clear hz hr hI hlate hz7
                go_wp2_with fail
                refine hcall.out.mono ?_
                rintro e w7 ⟨rfl, hz8⟩
                have hz8 : Hid (Zoo w1 w7 [boxT B7 (pkArr last) 30, netT b (tickS s)]) := Lib.hid hz8
                clear hcall
                go_wp2_with fail
                go_roundw
                case rel => exact ⟨t + 1, tickS s, last, by go_num, by omega, rfl, hz8, hI2⟩
                case measure => simp [intOf] <;> omega
              · simp at h
            · rcases hI.out.next hr.out with ⟨h, _⟩ | ⟨p, h, hd, hp, hleast⟩
              · simp at h
              · have h : q = p := by simpa using h
                subst h
                obtain ⟨hI2, hl2, hdue, hle⟩ := hI.out.take hp hleast
                have hz7 := hz.newBox (pkArr q) 30
                have hI3 := Lib.hid hI2
                have hnw := hI.out.now
                clear hz hr hI hI2 hp hleast
                go_wp2_with fail
                simp only [pkArr] at hz7
                generalize w6.heap.size = B9 at hz7 ⊢
                generalize w6.alloc (.cells #[.int .i64 q.id, .int .i64 q.src, .int .i64 q.dst, .string q.data, .int .i64 q.due] 30) = w7 at hz7 ⊢
                obtain ⟨hb9, -⟩ := hz7.box 0 rfl
                obtain ⟨hb7, -⟩ := hz7.box 1 rfl
                have hne : B9 ≠ B7 := hz7.apart2 (x := netT b s) rfl
                have a0 : w7.cell? ⟨B9, 0, none⟩ = some (.int .i64 q.id) := box_cell hb9 0
                have a1 : w7.cell? ⟨B9, 1, none⟩ = some (.int .i64 q.src) := box_cell hb9 1
                have a2 : w7.cell? ⟨B9, 2, none⟩ = some (.int .i64 q.dst) := box_cell hb9 2
                have a3 : w7.cell? ⟨B9, 3, none⟩ = some (.string q.data) := box_cell hb9 3
                have a4 : w7.cell? ⟨B9, 4, none⟩ = some (.int .i64 q.due) := box_cell hb9 4
                have c0 : w7.cell? ⟨B7, 0, none⟩ = some (.int .i64 last.id) := box_cell hb7 0
                have c1 : w7.cell? ⟨B7, 1, none⟩ = some (.int .i64 last.src) := box_cell hb7 1
                have c2 : w7.cell? ⟨B7, 2, none⟩ = some (.int .i64 last.dst) := box_cell hb7 2
                have c3 : w7.cell? ⟨B7, 3, none⟩ = some (.string last.data) := box_cell hb7 3
                have c4 : w7.cell? ⟨B7, 4, none⟩ = some (.int .i64 last.due) := box_cell hb7 4
                have cf : ∀ j, w7.frozen? ⟨B7, j, none⟩ = false := fun j => box_free hb7 j
                have hnow := Lib.hid (fun k => now_zoo (hz7.below (below_drewN (Below.refl _ w7) k)) 2 b (withL s l2) rfl)
                have en : (withL s l2).now = s.now := rfl
                rw [en] at hnow
                have hfin := Lib.hid (fun k => (Zoo.putBox (p := last) (hz7.below (below_drewN (Below.refl _ w7) k)) 1 rfl q).tail)
                have e1 : decide ((s.now : Int) < q.due) = false := by simp; omega
                have e3 : decide (q.due < last.due) = false := by unfold leP ltP at hle; simp; omega
                have e5 : (q.due == last.due) = true → decide (q.id < last.id) = false := fun h => by unfold leP ltP at hle; simp at h ⊢; omega
                have e2 : decide (q.due < (s.now : Int)) = true → t = 0 := fun h => by
                  simp at h
                  by_cases h0 : 0 < t
                  · have := hdue h0; omega
                  · omega
                have hl3 : ((s.l.length : Nat) : Int) = (l2.length : Int) + 1 := by omega
                have hl4 : (l2.length : Int) ≤ 512 := by omega
                have hlq := Lib.hid hl2
                replace hle := Lib.hid hle
                clear hz7 hb9 hb7 hdue en hd hl2 hlen hnw
                rw [hl3]
                generalize s.now = nw at e1 e2 hnow ⊢
                obtain ⟨ll, hll⟩ : ∃ ll, ll = (l2.length : Int) := ⟨_, rfl⟩
                rw [← hll] at hl4 ⊢
                have hl0 : 0 ≤ ll := by omega
                have hl5 : Hid (ll = (l2.length : Int)) := Lib.hid hll
                clear hl3
                cases hX : decide (q.due < (nw : Int))
                · cases hY : (q.due == last.due)
                  · clear e2 e5
                    go_quiet ((go_at_call 14; exact Calls.quiet_of_same (hnow.out _)))
                    have hz8 : Hid (Zoo w1 (putB (w7.drewN nq) B7 q) [boxT B7 (pkArr q) 30, netT b (withL s l2)]) := Lib.hid (hfin.out nq)
                    have a0 : (w7.drewN nq).cell? ⟨B9, 0, none⟩ = some (.int .i64 q.id) := a0
                    have a1 : (w7.drewN nq).cell? ⟨B9, 1, none⟩ = some (.int .i64 q.src) := a1
                    have a2 : (w7.drewN nq).cell? ⟨B9, 2, none⟩ = some (.int .i64 q.dst) := a2
                    have a3 : (w7.drewN nq).cell? ⟨B9, 3, none⟩ = some (.string q.data) := a3
                    have a4 : (w7.drewN nq).cell? ⟨B9, 4, none⟩ = some (.int .i64 q.due) := a4
                    have c0 : (w7.drewN nq).cell? ⟨B7, 0, none⟩ = some (.int .i64 last.id) := c0
                    have c1 : (w7.drewN nq).cell? ⟨B7, 1, none⟩ = some (.int .i64 last.src) := c1
                    have c2 : (w7.drewN nq).cell? ⟨B7, 2, none⟩ = some (.int .i64 last.dst) := c2
                    have c3 : (w7.drewN nq).cell? ⟨B7, 3, none⟩ = some (.string last.data) := c3
                    have c4 : (w7.drewN nq).cell? ⟨B7, 4, none⟩ = some (.int .i64 last.due) := c4
                    have cf : ∀ j, (w7.drewN nq).frozen? ⟨B7, j, none⟩ = false := cf
                    clear hnow hfin
                    generalize w7.drewN nq = w8 at hz8 a0 a1 a2 a3 a4 c0 c1 c2 c3 c4 cf ⊢
                    go_wp2_with fail
                    go_roundw
                    case rel => exact ⟨withL s l2, q, by rw [show ((withL s l2).l.length : Int) = ll from hll.symm]; go_num, hz8, hI3⟩
                    case measure =>
                      have := hlq.out
                      simp [intOf] <;> omega
                  · have e5 := e5 hY
                    clear e2
                    go_quiet ((go_at_call 14; exact Calls.quiet_of_same (hnow.out _)))
                    have hz8 : Hid (Zoo w1 (putB (w7.drewN nq) B7 q) [boxT B7 (pkArr q) 30, netT b (withL s l2)]) := Lib.hid (hfin.out nq)
                    have a0 : (w7.drewN nq).cell? ⟨B9, 0, none⟩ = some (.int .i64 q.id) := a0
                    have a1 : (w7.drewN nq).cell? ⟨B9, 1, none⟩ = some (.int .i64 q.src) := a1
                    have a2 : (w7.drewN nq).cell? ⟨B9, 2, none⟩ = some (.int .i64 q.dst) := a2
                    have a3 : (w7.drewN nq).cell? ⟨B9, 3, none⟩ = some (.string q.data) := a3
                    have a4 : (w7.drewN nq).cell? ⟨B9, 4, none⟩ = some (.int .i64 q.due) := a4
                    have c0 : (w7.drewN nq).cell? ⟨B7, 0, none⟩ = some (.int .i64 last.id) := c0
                    have c1 : (w7.drewN nq).cell? ⟨B7, 1, none⟩ = some (.int .i64 last.src) := c1
                    have c2 : (w7.drewN nq).cell? ⟨B7, 2, none⟩ = some (.int .i64 last.dst) := c2
                    have c3 : (w7.drewN nq).cell? ⟨B7, 3, none⟩ = some (.string last.data) := c3
                    have c4 : (w7.drewN nq).cell? ⟨B7, 4, none⟩ = some (.int .i64 last.due) := c4
                    have cf : ∀ j, (w7.drewN nq).frozen? ⟨B7, j, none⟩ = false := cf
                    clear hnow hfin
                    generalize w7.drewN nq = w8 at hz8 a0 a1 a2 a3 a4 c0 c1 c2 c3 c4 cf ⊢
                    go_wp2_with fail
                    go_roundw
                    case rel => exact ⟨withL s l2, q, by rw [show ((withL s l2).l.length : Int) = ll from hll.symm]; go_num, hz8, hI3⟩
                    case measure =>
                      have := hlq.out
                      simp [intOf] <;> omega
                · obtain rfl : t = 0 := e2 hX
                  clear e2
                  cases hY : (q.due == last.due)
                  · clear e5
                    go_quiet ((go_at_call 14; exact Calls.quiet_of_same (hnow.out _)))
                    have hz8 : Hid (Zoo w1 (putB (w7.drewN nq) B7 q) [boxT B7 (pkArr q) 30, netT b (withL s l2)]) := Lib.hid (hfin.out nq)
                    have a0 : (w7.drewN nq).cell? ⟨B9, 0, none⟩ = some (.int .i64 q.id) := a0
                    have a1 : (w7.drewN nq).cell? ⟨B9, 1, none⟩ = some (.int .i64 q.src) := a1
                    have a2 : (w7.drewN nq).cell? ⟨B9, 2, none⟩ = some (.int .i64 q.dst) := a2
                    have a3 : (w7.drewN nq).cell? ⟨B9, 3, none⟩ = some (.string q.data) := a3
                    have a4 : (w7.drewN nq).cell? ⟨B9, 4, none⟩ = some (.int .i64 q.due) := a4
                    have c0 : (w7.drewN nq).cell? ⟨B7, 0, none⟩ = some (.int .i64 last.id) := c0
                    have c1 : (w7.drewN nq).cell? ⟨B7, 1, none⟩ = some (.int .i64 last.src) := c1
                    have c2 : (w7.drewN nq).cell? ⟨B7, 2, none⟩ = some (.int .i64 last.dst) := c2
                    have c3 : (w7.drewN nq).cell? ⟨B7, 3, none⟩ = some (.string last.data) := c3
                    have c4 : (w7.drewN nq).cell? ⟨B7, 4, none⟩ = some (.int .i64 last.due) := c4
                    have cf : ∀ j, (w7.drewN nq).frozen? ⟨B7, j, none⟩ = false := cf
                    clear hnow hfin
                    generalize w7.drewN nq = w8 at hz8 a0 a1 a2 a3 a4 c0 c1 c2 c3 c4 cf ⊢
                    go_wp2_with fail
                    go_roundw
                    case rel => exact ⟨withL s l2, q, by rw [show ((withL s l2).l.length : Int) = ll from hll.symm]; go_num, hz8, hI3⟩
                    case measure =>
                      have := hlq.out
                      simp [intOf] <;> omega
                  · have e5 := e5 hY
                    go_quiet ((go_at_call 14; exact Calls.quiet_of_same (hnow.out _)))
                    have hz8 : Hid (Zoo w1 (putB (w7.drewN nq) B7 q) [boxT B7 (pkArr q) 30, netT b (withL s l2)]) := Lib.hid (hfin.out nq)
                    have a0 : (w7.drewN nq).cell? ⟨B9, 0, none⟩ = some (.int .i64 q.id) := a0
                    have a1 : (w7.drewN nq).cell? ⟨B9, 1, none⟩ = some (.int .i64 q.src) := a1
                    have a2 : (w7.drewN nq).cell? ⟨B9, 2, none⟩ = some (.int .i64 q.dst) := a2
                    have a3 : (w7.drewN nq).cell? ⟨B9, 3, none⟩ = some (.string q.data) := a3
                    have a4 : (w7.drewN nq).cell? ⟨B9, 4, none⟩ = some (.int .i64 q.due) := a4
                    have c0 : (w7.drewN nq).cell? ⟨B7, 0, none⟩ = some (.int .i64 last.id) := c0
                    have c1 : (w7.drewN nq).cell? ⟨B7, 1, none⟩ = some (.int .i64 last.src) := c1
                    have c2 : (w7.drewN nq).cell? ⟨B7, 2, none⟩ = some (.int .i64 last.dst) := c2
                    have c3 : (w7.drewN nq).cell? ⟨B7, 3, none⟩ = some (.string last.data) := c3
                    have c4 : (w7.drewN nq).cell? ⟨B7, 4, none⟩ = some (.int .i64 last.due) := c4
                    have cf : ∀ j, (w7.drewN nq).frozen? ⟨B7, j, none⟩ = false := cf
                    clear hnow hfin
                    generalize w7.drewN nq = w8 at hz8 a0 a1 a2 a3 a4 c0 c1 c2 c3 c4 cf ⊢
                    go_wp2_with fail
                    go_roundw
                    case rel => exact ⟨withL s l2, q, by rw [show ((withL s l2).l.length : Int) = ll from hll.symm]; go_num, hz8, hI3⟩
                    case measure =>
                      have := hlq.out
                      simp [intOf] <;> omega
        · have ht' : (100 : Int) < (t : Int) := by omega
          obtain rfl : t = 101 := by omega
          have hnil := hI.out.done
          have hcall := Lib.hid (all_zoo hz.out 1 b s rfl hI.out.len (fun p hp => by rw [hnil] at hp; simp at hp))
          rw [hnil]
          clear hz hI
          go_wp2_with fail
          refine hcall.out.mono ?_
          rintro e w8 ⟨va, la, rfl, hla, hz4⟩
          obtain ⟨ao, cap, hva⟩ := (hz4.row 0 rfl).len
          have hl2 := hla.out.1.length_eq
          rw [hnil] at hl2
          subst hva
          rw [hl2]
          have hB := Lib.hid (hB1.out.trans (hz4.bel.mono hB1.out.size))
          clear hcall hz4 hla hl2
          go_wp2_with fail
          go_ret
          exact ⟨rfl, hB.out⟩
theorem netComes_card (v : Value) (W : World) (h : ∃ ks : List ActD, ActsIn W v ks) : Calls Try.prog 4 #[v] W fun e w' => e = .returned (.bool true) ∧ Below W.heap.size W w' := by
  obtain ⟨ks, h⟩ := h
  exact netComes_any v ks W h
end Go.Proofs.Ytjopbglimjhefaa
