/- Each packet comes at most once, and was sent just so: plain; NetOnce: walked. -/
import Derived.Test.YtjopbglimjhefaaNeS
namespace Go.Proofs.Ytjopbglimjhefaa
open Go.RowKit Go.Maps Go.WideMaps

/-- it was sent so -/
def Src (sn : List Pk) (q : Pk) : Prop := ∃ i, i < sn.length ∧ q.id = ((i + 1 : Nat) : Int) ∧ (pat sn i).src = q.src ∧ (pat sn i).dst = q.dst ∧ (pat sn i).data = q.data
def Once (sn T : List Pk) : Prop := (T.map Pk.id).Nodup ∧ ∀ q ∈ T, Src sn q
theorem Once.perm {sn T T' : List Pk} (h : Once sn T) (hp : T.Perm T') : Once sn T' := ⟨(hp.map _).nodup_iff.1 h.1, fun q hq => h.2 q (hp.mem_iff.2 hq)⟩
theorem Once.sub {sn T T' : List Pk} (h : Once sn T) (hp : T'.Sublist T) : Once sn T' := ⟨h.1.sublist (hp.map _), fun q hq => h.2 q (hp.subset hq)⟩
theorem pat_more (l : List Pk) (l2 : List Pk) (i : Nat) (h : i < l.length) : pat (l ++ l2) i = pat l i := by
  rw [pat_lt (by simp; omega), pat_lt h, List.getElem_append_left h]
theorem Src.more {sn : List Pk} {q : Pk} (h : Src sn q) (l : List Pk) : Src (sn ++ l) q := by
  obtain ⟨i, hi, h1, h2⟩ := h
  exact ⟨i, by simp; omega, h1, by rw [pat_more _ _ _ hi]; exact h2⟩
theorem Once.swap {sn T l2 : List Pk} {p q : Pk} (h : Once sn (T ++ p :: l2)) (h0 : q.id = p.id) (h1 : q.src = p.src) (h2 : q.dst = p.dst) (h3 : q.data = p.data) : Once sn (T ++ q :: l2) := by
  refine ⟨?_, fun x hx => ?_⟩
  · have := h.1
    simp only [List.map_append, List.map_cons] at this ⊢
    rw [h0]; exact this
  · simp only [List.mem_append, List.mem_cons] at hx
    rcases hx with hx | rfl | hx
    · exact h.2 x (by simp [hx])
    · obtain ⟨i, hi, g0, g1, g2, g3⟩ := h.2 p (by simp)
      exact ⟨i, hi, by rw [h0]; exact g0, by rw [h1]; exact g1, by rw [h2]; exact g2, by rw [h3]; exact g3⟩
    · exact h.2 x (by simp [hx])
structure OnceI (s : Ns) (sn cm : List Pk) : Prop where
  last : s.last = sn.length
  once : Once sn (cm ++ s.l)
theorem send_ok {s : Ns} {x y : Int} {t : ByteArray} {d : Int} (h : (sendS s x y t d).2.1 = 0) : sendS s x y t d = sent1 s x y t d := by
  unfold sendS at h ⊢
  split at h
  · split at h
    · rename_i h1 h2; rw [if_pos h1, if_pos h2]
    · cases h
  · cases h
theorem send_no {s : Ns} {x y : Int} {t : ByteArray} {d : Int} (h : ¬ (sendS s x y t d).2.1 = 0) : (sendS s x y t d).2.2 = s := by
  unfold sendS at h ⊢
  split at h
  · split at h
    · exact absurd rfl h
    · rename_i h1 h2; rw [if_pos h1, if_neg h2]
  · rename_i h1; rw [if_neg h1]
theorem ActR.once {s : Ns} {a : ActD} {s' : Ns} {sn cm sn1 cm1 : List Pk} (h : ActR s a s' sn1 cm1) (hk : OnceI s sn cm) : OnceI s' (sn ++ sn1) (cm ++ cm1) := by
  have same : ∀ T : List Pk, (∀ q, q ∈ T → q ∈ cm ++ s.l) → True := fun _ _ => trivial
  rcases h with ⟨_, rfl, rfl, rfl⟩ | ⟨_, rfl, rfl, rfl⟩ | ⟨_, r, l2, hr, rfl, rfl, rfl⟩ | ⟨_, ⟨x, hx⟩, rfl, rfl⟩ | ⟨_, ⟨x, hx⟩, rfl, rfl⟩ | ⟨_, rfl, rfl, rfl⟩ | ⟨_, rfl, rfl, rfl⟩
  · simp only [List.append_nil]; exact ⟨hk.last, hk.once⟩
  · rw [List.append_nil]
    by_cases he : (sendS s a.a a.b a.s a.n).2.1 = 0
    · rw [if_pos he, send_ok he]
      refine ⟨by show s.last + 1 = _; rw [List.length_append, hk.last]; rfl, ?_⟩
      have hp : (⟨((s.last + 1 : Nat) : Int), a.a, a.b, a.s, s.now + a.n⟩ :: (cm ++ s.l)).Perm (cm ++ (sent1 s a.a a.b a.s a.n).2.2.l) := List.perm_middle.symm
      refine Once.perm ?_ hp
      refine ⟨?_, fun q hq => ?_⟩
      · simp only [List.map_cons, List.nodup_cons]
        refine ⟨fun hm => ?_, hk.once.1⟩
        obtain ⟨q, hq, e⟩ := List.mem_map.1 hm
        obtain ⟨i, hi, e2, _⟩ := hk.once.2 q hq
        rw [e2] at e
        have := hk.last
        omega
      · rcases List.mem_cons.1 hq with rfl | hq
        · refine ⟨sn.length, by simp, by show ((s.last + 1 : Nat) : Int) = _; rw [hk.last], ?_⟩
          rw [pat_lt (by simp), List.getElem_append_right (by omega)]
          simp
        · exact (hk.once.2 q hq).more _
    · rw [if_neg he, send_no he, List.append_nil]
      exact hk
  · obtain ⟨g, hg⟩ := hr.cases'
    rw [List.append_nil]
    refine ⟨hk.last, (hk.once.perm (hg.symm.append_left cm)).sub ?_⟩
    show ((cm ++ r.toList) ++ l2).Sublist _
    rw [List.append_assoc, List.append_assoc]
    exact (List.Sublist.refl cm).append ((List.Sublist.refl _).append (List.sublist_append_right _ _))
  · simp only [List.append_nil]
    rcases hx with ⟨_, _, rfl⟩ | ⟨p, l2, _, hp, _, rfl⟩
    · exact hk
    · exact ⟨hk.last, (hk.once.perm (hp.symm.append_left cm)).sub ((List.Sublist.refl cm).append (List.sublist_cons_self _ _))⟩
  · simp only [List.append_nil]
    rcases hx with ⟨_, _, rfl⟩ | ⟨_, _, _, rfl⟩ | ⟨_, p, l2, _, hp, _, rfl⟩
    · exact hk
    · exact hk
    · exact ⟨hk.last, (hk.once.perm (hp.symm.append_left cm)).swap rfl rfl rfl rfl⟩
  · simp only [List.append_nil]
    unfold cutS
    split
    · exact ⟨hk.last, hk.once⟩
    · exact hk
  · simp only [List.append_nil]; exact hk
theorem RunR.once {acts : List ActD} {s : Ns} {sn cm : List Pk} (h : RunR Ns.new acts s sn cm) : OnceI s sn cm := by
  induction h with
  | nil => exact ⟨rfl, List.nodup_nil, fun q hq => by cases hq⟩
  | snoc _ h2 ih => exact h2.once ih
theorem OnceI.came {s : Ns} {sn cm : List Pk} (h : OnceI s sn cm) : Once sn cm := h.once.sub (List.sublist_append_left _ _)
theorem Once.apart {sn cm : List Pk} (h : Once sn cm) {i k : Nat} (hi : i < cm.length) (hk : k < i) : (pat cm k).id ≠ (pat cm i).id := by
  have := List.pairwise_iff_getElem.1 h.1 k i (by simp; omega) (by simp; omega) hk
  simp only [List.getElem_map] at this
  rw [pat_lt hi, pat_lt (by omega)]
  exact this
theorem NOk.new (n : Nat) : NOk Ns.new n := ⟨by decide, fun q hq => by simp [Ns.new] at hq, Nat.zero_le _, Nat.zero_le _, Nat.zero_le _⟩
theorem OwnP.cells {W : World} {v : Value} {l : List Pk} (h : OwnP W v l) {i : Nat} (hi : i < l.length) : ∃ g cap, v = .slice (some ⟨g, 0, none⟩) l.length cap ∧ g < W.heap.size ∧ W.cell? ⟨g, i * 5, none⟩ = some (.int .i64 (pat l i).id) ∧ W.cell? ⟨g, i * 5 + 1, none⟩ = some (.int .i64 (pat l i).src) ∧ W.cell? ⟨g, i * 5 + 2, none⟩ = some (.int .i64 (pat l i).dst) ∧ W.cell? ⟨g, i * 5 + 3, none⟩ = some (.string (pat l i).data) ∧ W.cell? ⟨g, i * 5 + 4, none⟩ = some (.int .i64 (pat l i).due) := by
  obtain ⟨g, cap, rest, hv, -, hrow, -⟩ := h.row (by omega)
  have hlt := h.lt (g := g) (by rw [hv]; rfl)
  exact ⟨g, cap, hv, hlt, hrow.cells i hi⟩
set_option maxRecDepth 100000 in
set_option maxHeartbeats 4000000 in
theorem netOnce_any (v : Value) (acts : List ActD) (W : World) (hin : ActsIn W v acts) : Calls Try.prog 3 #[v] W fun e w' => e = .returned (.bool true) ∧ Below W.heap.size W w' := by
  have hal := Lib.hid (alive_any W)
  replace hin := Lib.hid hin
  go_enter Try.func3, Try.ntmps3
  go_wp2_with fail
  refine hal.out.mono ?_
  rintro e w1 ⟨rfl, hB1⟩
  have hc := Lib.hid (new_zoo (Zoo.nil w1))
  clear hal
  go_wp2_with fail
  refine hc.out.mono ?_
  rintro e w2 ⟨b, rfl, hz⟩
  clear hc
  have hin1 := hin.out.below hB1.out
  have hc := Lib.hid (run_any b Ns.new v acts (NOk.new 1000) hz (hin1.below hz.bel) (fun W' h => hin1.below h.bel))
  clear hz hin1
  go_wp2_with fail
  refine hc.out.mono ?_
  rintro e w3 ⟨vs, vc, sn, cm, s', rfl, hz, hrun⟩
  have hon := Lib.hid hrun.out.once.came
  have hcl : cm.length ≤ 200 := by have := hrun.out.short.2; rw [List.length_take] at this; omega
  have hsl : Hid (sn.length ≤ 200) := Lib.hid (by have := hrun.out.short.1; rw [List.length_take] at this; omega)
  have hB3 := Lib.hid (hB1.out.trans (hz.out.bel.mono hB1.out.size))
  have hrs := Lib.hid (hz.out.row 1 rfl)
  have hrc := Lib.hid (hz.out.row 2 rfl)
  obtain ⟨ast, caps, hvs⟩ := hrs.out.len
  obtain ⟨ac, capc, hvc⟩ := hrc.out.len
  subst hvs hvc
  clear hc hz hrun hin hB1
  go_wp2_with fail
  go_loopw [5] (fun v5 wr => ∃ i : Nat, v5 = .int .i64 i ∧ i ≤ cm.length ∧ Hid (Below w3.heap.size w3 wr)) (fun v5 _ => cm.length - (intOf v5).toNat)
  case atStart => exact ⟨0, rfl, Nat.zero_le _, Lib.hid (Below.refl _ _)⟩
  case round =>
    obtain ⟨i, rfl, hi, hb⟩ := hrel
    by_cases hlt : i < cm.length
    · have hl1 : (i : Int) < (cm.length : Int) := by omega
      obtain ⟨j, hj, e0, e1, e2, e3⟩ := hon.out.2 (pat cm i) (by rw [pat_lt hlt]; exact List.getElem_mem hlt)
      obtain ⟨gc, capc', hvc, hgc, c0, c1, c2, c3, c4⟩ := (hrc.out.below hb.out).cells hlt
      obtain ⟨gs, caps', hvs, hgs, d0, d1, d2, d3, d4⟩ := (hrs.out.below hb.out).cells hj
      injection hvc with hvc1 hvc2 hvc3
      injection hvs with hvs1 hvs2 hvs3
      subst hvc1 hvc3 hvs1 hvs3
      have hne := Lib.hid (fun k (hk : k < i) => hon.out.apart hlt hk)
      rw [e0] at hne
      rw [e0] at c0
      rw [← e1] at c1
      rw [← e2] at c2
      rw [← e3] at c3
      generalize (pat sn j).id = q0 at d0
      generalize (pat sn j).src = q1 at d1 c1
      generalize (pat sn j).dst = q2 at d2 c2
      generalize (pat sn j).data = q3 at d3 c3
      generalize (pat sn j).due = q4 at d4
      generalize (pat cm i).due = q5 at c4
      have hj1 : (j : Int) < (sn.length : Int) := by omega
      have ej : ((j + 1 : Nat) : Int) = (j : Int) + 1 := by omega
      rw [ej] at c0 hne
      have hj2 : (j : Int) + 1 ≤ (sn.length : Int) := by omega
      have hj3 : (1 : Int) ≤ (j : Int) + 1 := by omega
      have hj0 : (0 : Int) ≤ (j : Int) := by omega
      have hwj : wrap64 (j : Int) = (j : Int) := IntWalk.wrap64_in _ (by have := hsl.out; omega)
      have hgc2 : gc ≠ wr.heap.size := by omega
      have hgs2 : gs ≠ wr.heap.size := by omega
      have hgs3 : gs ≠ wr.heap.size + 1 := by omega
      have hgc3 : gc ≠ wr.heap.size + 1 := by omega
      clear e0 e1 e2 e3 ej
      go_wp2_with fail
      have hb5 := Lib.hid ((hb.out.alloc hb.out.size (.cells #[.int .i64 ((j : Int) + 1), .int .i64 q1, .int .i64 q2, .string q3, .int .i64 q5] 30)).alloc (Nat.le_trans hb.out.size (by simp)) (.cells #[.int .i64 q0, .int .i64 q1, .int .i64 q2, .string q3, .int .i64 q4] 30))
      have p0 : ((wr.alloc (.cells #[.int .i64 ((j : Int) + 1), .int .i64 q1, .int .i64 q2, .string q3, .int .i64 q5] 30)).alloc (.cells #[.int .i64 q0, .int .i64 q1, .int .i64 q2, .string q3, .int .i64 q4] 30)).cell? ⟨wr.heap.size, 0, none⟩ = some (.int .i64 ((j : Int) + 1)) :=
        (cell_at ((heap_alloc_old _ _ (by simp)).trans (heap_alloc_new wr _)) 0).trans rfl
      have hX : wr.heap.size < ((wr.alloc (.cells #[.int .i64 ((j : Int) + 1), .int .i64 q1, .int .i64 q2, .string q3, .int .i64 q5] 30)).alloc (.cells #[.int .i64 q0, .int .i64 q1, .int .i64 q2, .string q3, .int .i64 q4] 30)).heap.size := by simp; omega
      generalize (wr.alloc (.cells #[.int .i64 ((j : Int) + 1), .int .i64 q1, .int .i64 q2, .string q3, .int .i64 q5] 30)).alloc (.cells #[.int .i64 q0, .int .i64 q1, .int .i64 q2, .string q3, .int .i64 q4] 30) = w5 at hb5 p0 hX ⊢
      clear c0 c1 c2 c3 c4 d0 d1 d2 d3 d4 hgc2 hgs2 hgc3 hgs3 hgc hgs
      have hlen := Lib.hid hb.out.size
      generalize wr.heap.size = X at p0 hX hlen ⊢
      replace p0 := Lib.hid p0
      go_loopw [8] (fun v8 wr2 => ∃ k : Nat, v8 = .int .i64 k ∧ k ≤ i ∧ Hid (Below w5.heap.size w5 wr2)) (fun v8 _ => i - (intOf v8).toNat)
      case atStart => exact ⟨0, rfl, Nat.zero_le _, Lib.hid (Below.refl _ _)⟩
      case round =>
        obtain ⟨k, rfl, hk, hb6⟩ := hrel
        by_cases hlt2 : k < i
        · have hl2 : (k : Int) < (i : Int) := by omega
          have hl3 : (k : Int) < (cm.length : Int) := by omega
          have hb7 := hb5.out.trans (hb6.out.mono hb5.out.size)
          obtain ⟨gc', capc', hvc, hgc, c0, -⟩ := (hrc.out.below hb7).cells (i := k) (by omega)
          injection hvc with hvc1 hvc2 hvc3
          injection hvc1 with hvc1
          injection hvc1 with hvc1
          subst hvc1 hvc3
          have p1 := (hb6.out.cell (p := ⟨X, 0, none⟩) hX).trans p0.out
          have hq : ((pat cm k).id == (j : Int) + 1) = false := by simpa using hne.out k hlt2
          generalize (pat cm k).id = z at c0 hq
          go_wp2_with fail
          go_quiet (fail)
          have hB8 := Lib.hid (below_drewN hb6.out nq)
          generalize wr.drewN nq = w8 at hB8 ⊢
          go_wp2_with fail
          go_roundw
          case rel => exact ⟨k + 1, by go_num, by omega, hB8⟩
          case measure => simp [intOf] <;> omega
        · have hl2 : (i : Int) ≤ (k : Int) := by omega
          have hb7 := Lib.hid (hb5.out.trans (hb6.out.mono hb5.out.size))
          go_wp2_with fail
          go_roundw
          case rel => exact ⟨i + 1, by go_num, by omega, hb7⟩
          case measure => simp [intOf] <;> omega
    · have hl1 : (cm.length : Int) ≤ (i : Int) := by omega
      go_wp2_with fail
      go_ret
      exact ⟨rfl, hB3.out.trans (hb.out.mono hB3.out.size)⟩
theorem netOnce_card (v : Value) (W : World) (h : ∃ ks : List ActD, ActsIn W v ks) : Calls Try.prog 3 #[v] W fun e w' => e = .returned (.bool true) ∧ Below W.heap.size W w' := by
  obtain ⟨ks, h⟩ := h
  exact netOnce_any v ks W h
end Go.Proofs.Ytjopbglimjhefaa
