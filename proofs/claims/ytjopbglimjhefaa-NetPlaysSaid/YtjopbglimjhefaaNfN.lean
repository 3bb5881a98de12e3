/- NetPlays: walked. -/
import Derived.Test.YtjopbglimjhefaaNfM
namespace Go.Proofs.Ytjopbglimjhefaa
set_option linter.unusedSimpArgs false
open Go.RowKit Go.Maps Go.WideMaps
attribute [local go_sem ↓] Go.wp_at_zero Go.wp_at_succ

/-- the document's net, its row named -/
def refV (b : Nat) (v : Value) (r : Rs) : Th := ⟨fun F W => RefAt W b v r ∧ ∀ k, F k ↔ refFoot b v k,
  fun F W h k hk => by
    obtain ⟨hn, hF⟩ := h
    rcases (hF k).1 hk with rfl | h
    · exact hn.lt
    · exact hn.own.lt h,
  fun F W W' h hk => by
    obtain ⟨hn, hF⟩ := h
    exact ⟨hn.same (fun k h => hk k ((hF k).2 h)), hF⟩⟩
variable {W0 W : World} {L : List Th}
theorem Zoo.named (h : Zoo W0 W L) (i b : Nat) (r : Rs) (hi : L[i]? = some (refT b r)) : ∃ v, Zoo W0 W (L.set i (refV b v r)) := by
  obtain ⟨F, ⟨v, hn, hF⟩, hlow, hact⟩ := h.act i _ hi
  exact ⟨v, hact (refV b v r) F W ⟨hn, hF⟩ (Grows.of_below (Below.refl _ _))⟩
theorem Zoo.refAt (h : Zoo W0 W L) (i b : Nat) (v : Value) (r : Rs) (hi : L[i]? = some (refV b v r)) : RefAt W b v r := by
  obtain ⟨F, ⟨hn, hF⟩, _⟩ := h.act i _ hi
  exact hn
theorem Zoo.unname (h : Zoo W0 W L) (i b : Nat) (v : Value) (r : Rs) (hi : L[i]? = some (refV b v r)) : Zoo W0 W (L.set i (refT b r)) := by
  obtain ⟨F, ⟨hn, hF⟩, hlow, hact⟩ := h.act i _ hi
  exact hact (refT b r) F W ⟨v, hn, hF⟩ (Grows.of_below (Below.refl _ _))
/-- a packet of a row is written over -/
theorem Zoo.putRow {v : Value} {l : List Pk} (h : Zoo W0 W (rowP v l :: L)) (j : Nat) (hj : j < l.length) (p : Pk) : ∃ g cap, v = .slice (some ⟨g, 0, none⟩) l.length cap ∧ W.cell? ⟨g, j * 5, none⟩ = some (.int .i64 (pat l j).id) ∧ W.cell? ⟨g, j * 5 + 1, none⟩ = some (.int .i64 (pat l j).src) ∧ W.cell? ⟨g, j * 5 + 2, none⟩ = some (.int .i64 (pat l j).dst) ∧ W.cell? ⟨g, j * 5 + 3, none⟩ = some (.string (pat l j).data) ∧ W.cell? ⟨g, j * 5 + 4, none⟩ = some (.int .i64 (pat l j).due) ∧ (∀ k, W.frozen? ⟨g, k, none⟩ = false) ∧ Zoo W0 (putPk W g j p) (rowP v (l.set j p) :: L) := by
  obtain ⟨F, ⟨ho, hF⟩, hlow, hact⟩ := h.act 0 _ rfl
  obtain ⟨g, cap, rest, rfl, -, hrow, hback⟩ := ho.row (by omega)
  obtain ⟨a0, a1, a2, a3, a4⟩ := hrow.cells j hj
  have h2 := hback _ _ l.length (Nat.le_refl _) (by rw [List.length_set]) (hrow.put j hj p)
  rw [List.take_of_length_le (by rw [List.length_set]; exact Nat.le_refl _)] at h2
  have hk : Kept1 W g (putPk W g j p) := (Kept1.refl W g).put j p
  refine ⟨g, cap, rfl, a0, a1, a2, a3, a4, hrow.free, hact (rowP _ (l.set j p)) F _ ⟨h2, hF⟩ ⟨hk.1, hk.2.1, hk.2.2.1, hk.2.2.2.1, fun k hk1 hn => hk.2.2.2.2 k hk1 (fun e => hn ((hF k).2 (by subst e; rfl))), fun k hk1 => .inl hk1⟩⟩
def newRef : Array Value := #[.slice none 0 0, .int .i64 0, .int .i64 0, .bool false, .bool false, .bool false, .bool false, .bool false, .bool false, .bool false, .bool false, .bool false, .bool false, .bool false, .bool false, .bool false, .bool false, .bool false, .bool false, .bool false, .bool false, .bool false, .bool false, .bool false, .bool false, .bool false, .bool false, .bool false, .bool false, .bool false, .bool false, .bool false, .bool false, .bool false, .bool false, .bool false, .bool false, .bool false, .bool false]
theorem ref_new' (h : Zoo W0 W L) : Zoo W0 (W.alloc (.cells newRef 44)) (refT W.heap.size ⟨[], 0, 0, List.replicate 36 false⟩ :: L) := ref_new h
theorem all_same {s : Ns} {r : Rs} {la : List Pk} (h : Alike s r) (h1 : la.Perm s.l) (h2 : la.Pairwise (fun p q => p.id ≤ q.id)) : la = r.l := by
  refine rise_same (h1.trans h.perm.symm) ?_ h.rise
  have hn : (la.map Pk.id).Nodup := ((h1.map Pk.id).nodup_iff).2 h.nodup
  rw [List.nodup_iff_pairwise_ne, List.pairwise_map] at hn
  exact (h2.and hn).imp (fun h => by omega)
theorem PlayI.ids {s : Ns} {r : Rs} {n : Nat} (h : PlayI s r n) (hn : n ≤ 500000) : ∀ p ∈ s.l, 0 ≤ p.id ∧ p.id ≤ 1000000 := fun p hp => by
  have h1 := h.al.ids p (h.al.perm.mem_iff.2 hp)
  have h2 := h.ok.last
  omega
theorem PlayI.new : PlayI Ns.new ⟨[], 0, 0, List.replicate 36 false⟩ 0 := ⟨Alike.new, NOk.new 0⟩
set_option maxRecDepth 100000 in
set_option maxHeartbeats 8000000 in
theorem netPlays_any (v : Value) (acts : List ActD) (W : World) (hin : ActsIn W v acts) : Calls Try.prog 6 #[v] W fun e w' => e = .returned (.bool true) ∧ Below W.heap.size W w' := by
  have hal := Lib.hid (alive_any W)
  obtain ⟨aq, cq, hv, -⟩ := id hin
  replace hin := Lib.hid hin
  subst hv
  go_enter Try.func6, Try.ntmps6
  go_wp2_with fail
  refine hal.out.mono ?_
  rintro e w1 ⟨rfl, hB1⟩
  have hc := Lib.hid (new_zoo (Zoo.nil w1))
  clear hal
  go_wp2_with fail
  refine hc.out.mono ?_
  rintro e w2 ⟨bn, rfl, hz⟩
  have hz2 := ref_new' hz
  have hin1 := hin.out.below hB1.out
  have hact := Lib.hid (fun (W' : World) (h : Below w1.heap.size w1 W') => hin1.below h)
  unfold newRef at hz2
  replace hz2 := Lib.hid hz2
  clear hc hz hin1 hin
  go_wp2_with fail
  generalize w2.heap.size = bx at hz2 ⊢
  go_loopw [5] (fun v5 wr => ∃ (k : Nat) (s : Ns) (r : Rs), v5 = .int .i64 k ∧ k ≤ 200 ∧ k ≤ acts.length ∧ Hid (Zoo w1 wr [netT bn s, refT bx r]) ∧ Hid (PlayI s r (k * 600))) (fun v5 _ => 200 - (intOf v5).toNat)
  case atStart => exact ⟨0, _, _, rfl, by omega, Nat.zero_le _, Lib.hid hz2.out.swap, Lib.hid PlayI.new⟩
  case round =>
    clear hz2
    obtain ⟨k, s, r, rfl, hk2, hka, hz, hI⟩ := hrel
    by_cases hlt : k < acts.length ∧ k < 200
    · obtain ⟨hlt, h2⟩ := hlt
      have hl1 : (k : Int) < (acts.length : Int) := by omega
      have hl2 : (k : Int) < 200 := by omega
      obtain ⟨ao1, cap1, hv, hin⟩ := hact.out wr hz.out.bel
      injection hv with hv1 hv2 hv3
      subst hv1 hv3
      rcases hin with h0 | ⟨B, o, rfl, hB, hcell⟩
      · rw [h0] at hlt; simp at hlt
      · obtain ⟨a0, a1, a2, a3, a4⟩ := hcell k hlt
        clear hcell
        generalize acts[k] = A at a0 a1 a2 a3 a4
        obtain ⟨kd, x, y, n, t⟩ := A
        dsimp only at a0 a1 a2 a3 a4
        have hcall := Lib.hid (act_any bn bx s r (k * 600) (by omega) hI.out kd x y n t hz.out.drew)
        clear hz hI
        go_wp2_with fail
        refine wp_region_hd (fun _ => True) 16 1 (by kernel_rfl) rfl ⟨by kernel_rfl, by kernel_rfl, by kernel_rfl, by decide⟩ trivial (fun hok hS0 => ?_)
        refine Hd.take (i := 0) (v := ?tv114) hok rfl (by kernel_rfl) (fun _ _ _ h => h) (Or.inl ⟨by rfl, ?ty114⟩) (by assumption) ?tr114
        case ty114 => (intro w hSw; (try dsimp only at hSw); go_simp; (try with_reducible rfl))
        try simp only [List.getElem_toArray, List.getElem_cons_succ, List.getElem_cons_zero, Act.put, List.setIfInBounds_toArray, List.set_cons_zero, List.set_cons_succ]
        refine Hd.take (i := 1) (v := ?tv115) hok rfl (by kernel_rfl) (fun _ _ _ h => h) (Or.inl ⟨by rfl, ?ty115⟩) (by assumption) ?tr115
        case ty115 => (intro w hSw; (try dsimp only at hSw); go_simp; (try with_reducible rfl))
        try simp only [List.getElem_toArray, List.getElem_cons_succ, List.getElem_cons_zero, Act.put, List.setIfInBounds_toArray, List.set_cons_zero, List.set_cons_succ]
        refine Hd.take (i := 2) (v := ?tv116) hok rfl (by kernel_rfl) (fun _ _ _ h => h) (Or.inl ⟨by rfl, ?ty116⟩) (by assumption) ?tr116
        case ty116 => (intro w hSw; (try dsimp only at hSw); go_simp; (try with_reducible rfl))
        try simp only [List.getElem_toArray, List.getElem_cons_succ, List.getElem_cons_zero, Act.put, List.setIfInBounds_toArray, List.set_cons_zero, List.set_cons_succ]
        refine Hd.take (i := 3) (v := ?tv117) hok rfl (by kernel_rfl) (fun _ _ _ h => h) (Or.inl ⟨by rfl, ?ty117⟩) (by assumption) ?tr117
        case ty117 => (intro w hSw; (try dsimp only at hSw); go_simp; (try with_reducible rfl))
        try simp only [List.getElem_toArray, List.getElem_cons_succ, List.getElem_cons_zero, Act.put, List.setIfInBounds_toArray, List.set_cons_zero, List.set_cons_succ]
        refine Hd.take (i := 4) (v := ?tv118) hok rfl (by kernel_rfl) (fun _ _ _ h => h) (Or.inl ⟨by rfl, ?ty118⟩) (by assumption) ?tr118
        case ty118 => (intro w hSw; (try dsimp only at hSw); go_simp; (try with_reducible rfl))
        try simp only [List.getElem_toArray, List.getElem_cons_succ, List.getElem_cons_zero, Act.put, List.setIfInBounds_toArray, List.set_cons_zero, List.set_cons_succ]
        refine Hd.one (i := 5) rfl (by kernel_rfl) (fun K hK => ?_)
        go_simp
        refine hK _ _ trivial ?_
        clear hK K
        try simp only [List.getElem_toArray, List.getElem_cons_succ, List.getElem_cons_zero, Act.put, List.setIfInBounds_toArray, List.set_cons_zero, List.set_cons_succ]
        refine Hd.one (i := 6) rfl (by kernel_rfl) (fun K hK => ?_)
        go_simp
        refine hcall.out.mono ?_
        rintro e w3 ⟨rfl, s1, r1, hz3, hI3⟩
        dsimp only
        refine hK _ _ trivial ?_
        clear hK K hcall a0 a1 a2 a3 a4
        try simp only [List.getElem_toArray, List.getElem_cons_succ, List.getElem_cons_zero, Act.put, List.setIfInBounds_toArray, List.set_cons_zero, List.set_cons_succ]
        have c1 := ref_now hz3.out 1 bx r1 rfl
        have hnow := Lib.hid (now_zoo hz3.out 0 bn s1 rfl)
        have hrn : r1.now = s1.now := hI3.out.al.now
        rw [hrn] at c1
        clear hrn
        refine Hd.take (i := 7) (v := ?tv119) hok rfl (by kernel_rfl) (fun _ _ _ h => h) (Or.inl ⟨by rfl, ?ty119⟩) (by assumption) ?tr119
        case ty119 => (intro w hSw; (try dsimp only at hSw); go_simp; (try with_reducible rfl))
        try simp only [List.getElem_toArray, List.getElem_cons_succ, List.getElem_cons_zero, Act.put, List.setIfInBounds_toArray, List.set_cons_zero, List.set_cons_succ]
        refine Hd.take (i := 8) (v := ?tv120) hok rfl (by kernel_rfl) (fun _ _ _ h => h) (Or.inl ⟨by rfl, ?ty120⟩) (by assumption) ?tr120
        case ty120 => (intro w hSw; (try dsimp only at hSw); go_simp; (try with_reducible rfl))
        try simp only [List.getElem_toArray, List.getElem_cons_succ, List.getElem_cons_zero, Act.put, List.setIfInBounds_toArray, List.set_cons_zero, List.set_cons_succ]
        refine Hd.take (i := 9) (v := ?tv121) hok rfl (by kernel_rfl) (fun _ _ _ h => h) (Or.inl ⟨by rfl, ?ty121⟩) (by assumption) ?tr121
        case ty121 => (intro w hSw; (try dsimp only at hSw); go_simp; (try with_reducible rfl))
        try simp only [List.getElem_toArray, List.getElem_cons_succ, List.getElem_cons_zero, Act.put, List.setIfInBounds_toArray, List.set_cons_zero, List.set_cons_succ]
        refine Hd.take (i := 11) (v := ?tv122) hok rfl (by kernel_rfl) (fun _ _ _ h => h) (Or.inl ⟨by rfl, ?ty122⟩) (by assumption) ?tr122
        case ty122 => (intro w hSw; (try dsimp only at hSw); go_simp; (try with_reducible rfl))
        try simp only [List.getElem_toArray, List.getElem_cons_succ, List.getElem_cons_zero, Act.put, List.setIfInBounds_toArray, List.set_cons_zero, List.set_cons_succ]
        refine Hd.take (i := 12) (v := ?tv123) hok rfl (by kernel_rfl) (fun _ _ _ h => h) (Or.inl ⟨by rfl, ?ty123⟩) (by assumption) ?tr123
        case ty123 => (intro w hSw; (try dsimp only at hSw); go_simp; (try with_reducible rfl))
        try simp only [List.getElem_toArray, List.getElem_cons_succ, List.getElem_cons_zero, Act.put, List.setIfInBounds_toArray, List.set_cons_zero, List.set_cons_succ]
        refine Hd.take (i := 13) (v := ?tv124) hok rfl (by kernel_rfl) (fun _ _ _ h => h) (Or.inl ⟨by rfl, ?ty124⟩) (by assumption) ?tr124
        case ty124 => (intro w hSw; (try dsimp only at hSw); go_simp; (try with_reducible rfl))
        try simp only [List.getElem_toArray, List.getElem_cons_succ, List.getElem_cons_zero, Act.put, List.setIfInBounds_toArray, List.set_cons_zero, List.set_cons_succ]
        have hqn : (((s1.now : Nat) : Int) != ((s1.now : Nat) : Int)) = false := by simp
        refine Hd.two (i := 10) (k := 14) rfl rfl (by kernel_rfl) (fun K hK => ?_) (fun K hK => ?_)
        go_simp
        refine hnow.out.mono ?_
        rintro e w4 ⟨rfl, hw4⟩
        obtain rfl : w3 = w4 := hw4.symm
        dsimp only
        refine hK _ _ trivial ?_
        clear hK K hw4
        try simp only [List.getElem_toArray, List.getElem_cons_succ, List.getElem_cons_zero, Act.put, List.setIfInBounds_toArray, List.set_cons_zero, List.set_cons_succ]
        refine Hd.one (i := 14) rfl (by kernel_rfl) (fun K hK => ?_)
        go_simp
        refine hK _ _ trivial ?_
        clear hK K
        try simp only [List.getElem_toArray, List.getElem_cons_succ, List.getElem_cons_zero, Act.put, List.setIfInBounds_toArray, List.set_cons_zero, List.set_cons_succ]
        refine Hd.take (i := 15) (v := ?tv125) hok rfl (by kernel_rfl) (fun _ _ _ h => h) (Or.inl ⟨by rfl, ?ty125⟩) (by assumption) ?tr125
        case ty125 => (intro w hSw; (try dsimp only at hSw); go_simp; (try with_reducible rfl))
        try simp only [List.getElem_toArray, List.getElem_cons_succ, List.getElem_cons_zero, Act.put, List.setIfInBounds_toArray, List.set_cons_zero, List.set_cons_succ]
        refine Hd.done (by kernel_rfl) ?_
        simp only [List.drop_succ_cons, List.drop_zero]
        rotate_left 1
        go_simp
        refine hK _ _ trivial ?_
        clear hK K
        try simp only [List.getElem_toArray, List.getElem_cons_succ, List.getElem_cons_zero, Act.put, List.setIfInBounds_toArray, List.set_cons_zero, List.set_cons_succ]
        refine Hd.one (i := 10) rfl (by kernel_rfl) (fun K hK => ?_)
        go_simp
        refine hnow.out.mono ?_
        rintro e w4 ⟨rfl, hw4⟩
        obtain rfl : w3 = w4 := hw4.symm
        dsimp only
        refine hK _ _ trivial ?_
        clear hK K hw4
        try simp only [List.getElem_toArray, List.getElem_cons_succ, List.getElem_cons_zero, Act.put, List.setIfInBounds_toArray, List.set_cons_zero, List.set_cons_succ]
        refine Hd.take (i := 15) (v := ?tv126) hok rfl (by kernel_rfl) (fun _ _ _ h => h) (Or.inl ⟨by rfl, ?ty126⟩) (by assumption) ?tr126
        case ty126 => (intro w hSw; (try dsimp only at hSw); go_simp; (try with_reducible rfl))
        try simp only [List.getElem_toArray, List.getElem_cons_succ, List.getElem_cons_zero, Act.put, List.setIfInBounds_toArray, List.set_cons_zero, List.set_cons_succ]
        refine Hd.done (by kernel_rfl) ?_
        simp only [List.drop_succ_cons, List.drop_zero]
        all_goals
          clear hnow hok hS0 c1
          have hcall := Lib.hid (all_zoo hz3.out 0 bn s1 rfl hI3.out.ok.len (hI3.out.ids (by omega)))
          go_wp2_with fail
          refine hcall.out.mono ?_
          rintro e w5 ⟨va, la, rfl, hla, hz5⟩
          obtain rfl := all_same hI3.out.al hla.out.1 hla.out.2
          obtain ⟨vx, c0, hox⟩ := ref_row hz5 2 bx r1 rfl
          have hoa := hz5.row 0 rfl
          have hcall2 := Lib.hid (refSame_any va vx r1.l w5 hoa hox (by have := hI3.out.len; omega))
          have hlen := hI3.out.len
          obtain ⟨aa, ca, hva⟩ := hoa.len
          subst hva
          replace hz5 := Lib.hid hz5
          clear hcall hla hz3 hoa hox
          go_wp2_with fail
          refine hcall2.out.mono ?_
          rintro e w6 ⟨rfl, hb6⟩
          have hz6 := Lib.hid (hz5.out.below hb6.out)
          clear hcall2 hz5 hb6 c0
          go_wp2_with fail
          generalize hle : r1.l.length = le at hz6 hlen ⊢
          replace hle := Lib.hid hle
          go_loopw [7] (fun v7 wq => ∃ (j : Nat) (lq : List Pk), v7 = .int .i64 j ∧ j ≤ le ∧ Hid (lq.length = le) ∧ Hid (Zoo w1 wq [rowP (.slice aa le ca) lq, netT bn s1, refT bx r1])) (fun v7 _ => le - (intOf v7).toNat)
          case atStart => exact ⟨0, r1.l, rfl, Nat.zero_le _, hle, hz6⟩
          case round =>
            clear hz6
            obtain ⟨j, lq, rfl, hj, hlq, hz7⟩ := hrel
            by_cases hlt2 : j < le
            · have hl3 : (j : Int) < (le : Int) := by omega
              obtain ⟨g, cap2, hv, b0, b1, b2, b3, b4, bf, hz8⟩ := Zoo.putRow hz7.out j (by rw [hlq.out]; exact hlt2) Pk.zero
              injection hv with e1 e2 e3
              subst e1 e3
              replace hz8 := Lib.hid hz8
              have f0 := bf (j * 5)
              have f1 := bf (j * 5 + 1)
              have f2 := bf (j * 5 + 2)
              have f3 := bf (j * 5 + 3)
              have f4 := bf (j * 5 + 4)
              unfold putPk Pk.zero at hz8
              clear bf hz7
              go_wp2_with fail
              go_roundw
              case rel => exact ⟨j + 1, lq.set j Pk.zero, by go_num, by omega, Lib.hid (by rw [List.length_set]; exact hlq.out), hz8⟩
              case measure => simp [intOf] <;> omega
            · have hl3 : (le : Int) ≤ (j : Int) := by omega
              have hz9 : Hid (Zoo w1 wr [netT bn s1, refT bx r1]) := Lib.hid (Zoo.tail hz7.out)
              clear hz7
              go_wp2_with fail
              go_roundw
              case rel => exact ⟨k + 1, s1, r1, by go_num, by omega, by omega, hz9, Lib.hid (hI3.out.more (by omega))⟩
              case measure => simp [intOf] <;> omega
    · obtain ⟨vx, hzv⟩ := hz.out.named 1 bx r rfl
      have hzv : Zoo w1 wr [netT bn s, refV bx vx r] := hzv
      have hzd := hzv.drew
      have hcall := Lib.hid (all_zoo hzd 0 bn s rfl hI.out.ok.len (hI.out.ids (by omega)))
      have c0 : wr.drew.cell? ⟨bx, 0, none⟩ = some vx := (hzd.refAt 1 bx vx r rfl).c0
      have hend : (k : Int) < (acts.length : Int) → ¬ (k : Int) < 200 := fun h1 h2 => hlt ⟨by omega, by omega⟩
      replace c0 := Lib.hid c0
      clear hz hzv hzd hact hlt
      by_cases hk3 : (k : Int) < (acts.length : Int)
      · have hk4 : (200 : Int) ≤ (k : Int) := by have := hend hk3; omega
        clear hend
        go_wp2_with fail
        refine wp_region_hd (fun w' => w'.cell? ⟨bx, 0, none⟩ = some vx) 7 1 (by kernel_rfl) rfl ⟨by kernel_rfl, by kernel_rfl, by kernel_rfl, by decide⟩ c0.out (fun hok hS0 => ?_)
        refine Hd.take (i := 0) (v := ?tv127) hok rfl (by kernel_rfl) (fun _ _ _ h => h) (Or.inl ⟨by rfl, ?ty127⟩) (by assumption) ?tr127
        case ty127 => (intro w hSw; (try dsimp only at hSw); go_simp; (try with_reducible rfl))
        try simp only [List.getElem_toArray, List.getElem_cons_succ, List.getElem_cons_zero, Act.put, List.setIfInBounds_toArray, List.set_cons_zero, List.set_cons_succ]
        refine Hd.take (i := 2) (v := ?tv128) hok rfl (by kernel_rfl) (fun _ _ _ h => h) (Or.inl ⟨by rfl, ?ty128⟩) (by assumption) ?tr128
        case ty128 => (intro w hSw; (try dsimp only at hSw); go_simp; (try with_reducible rfl))
        try simp only [List.getElem_toArray, List.getElem_cons_succ, List.getElem_cons_zero, Act.put, List.setIfInBounds_toArray, List.set_cons_zero, List.set_cons_succ]
        refine Hd.take (i := 3) (v := ?tv129) hok rfl (by kernel_rfl) (fun _ _ _ h => h) (Or.inl ⟨by rfl, ?ty129⟩) (by assumption) ?tr129
        case ty129 => (intro w hSw; (try dsimp only at hSw); go_simp; (try with_reducible rfl))
        try simp only [List.getElem_toArray, List.getElem_cons_succ, List.getElem_cons_zero, Act.put, List.setIfInBounds_toArray, List.set_cons_zero, List.set_cons_succ]
        refine Hd.take (i := 4) (v := ?tv130) hok rfl (by kernel_rfl) (fun _ _ _ h => h) (Or.inl ⟨by rfl, ?ty130⟩) (by assumption) ?tr130
        case ty130 => (intro w hSw; (try dsimp only at hSw); go_simp; (try with_reducible rfl))
        try simp only [List.getElem_toArray, List.getElem_cons_succ, List.getElem_cons_zero, Act.put, List.setIfInBounds_toArray, List.set_cons_zero, List.set_cons_succ]
        refine Hd.take (i := 5) (v := ?tv131) hok rfl (by kernel_rfl) (fun _ _ _ h => h) (Or.inl ⟨by rfl, ?ty131⟩) (by assumption) ?tr131
        case ty131 => (intro w hSw; (try dsimp only at hSw); go_simp; (try with_reducible rfl))
        try simp only [List.getElem_toArray, List.getElem_cons_succ, List.getElem_cons_zero, Act.put, List.setIfInBounds_toArray, List.set_cons_zero, List.set_cons_succ]
        refine Hd.one (i := 1) rfl (by kernel_rfl) (fun K hK => ?_)
        go_simp
        refine hcall.out.mono ?_
        rintro e w5 ⟨va, la, rfl, hla, hz5⟩
        dsimp only
        obtain rfl := all_same hI.out.al hla.out.1 hla.out.2
        have hrx := hz5.refAt 2 bx vx r rfl
        have hS1 := hrx.c0
        refine hK _ _ hS1 ?_
        clear hK K
        try simp only [List.getElem_toArray, List.getElem_cons_succ, List.getElem_cons_zero, Act.put, List.setIfInBounds_toArray, List.set_cons_zero, List.set_cons_succ]
        have hcall2 := Lib.hid (refSame_any va vx r.l w5 (hz5.row 0 rfl) hrx.own (by have := hI.out.len; omega))
        refine Hd.one (i := 6) rfl (by kernel_rfl) (fun K hK => ?_)
        go_simp
        refine hcall2.out.mono ?_
        rintro e w6 ⟨rfl, hb6⟩
        dsimp only
        have hz6 := hz5.below hb6.out
        refine hK _ _ (hz6.refAt 2 bx vx r rfl).c0 ?_
        clear hK K
        try simp only [List.getElem_toArray, List.getElem_cons_succ, List.getElem_cons_zero, Act.put, List.setIfInBounds_toArray, List.set_cons_zero, List.set_cons_succ]
        have hB := Lib.hid (hB1.out.trans (hz6.bel.mono hB1.out.size))
        refine Hd.done (by kernel_rfl) ?_
        simp only [List.drop_succ_cons, List.drop_zero]
        clear hcall hcall2 hz5 hz6 hrx hS0 hS1 hok hla hI hb6 c0
        go_wp2_with fail
        go_ret
        exact ⟨rfl, hB.out⟩
      · have hk4 : (acts.length : Int) ≤ (k : Int) := by omega
        clear hend
        go_wp2_with fail
        refine wp_region_hd (fun w' => w'.cell? ⟨bx, 0, none⟩ = some vx) 7 1 (by kernel_rfl) rfl ⟨by kernel_rfl, by kernel_rfl, by kernel_rfl, by decide⟩ c0.out (fun hok hS0 => ?_)
        refine Hd.take (i := 0) (v := ?tv132) hok rfl (by kernel_rfl) (fun _ _ _ h => h) (Or.inl ⟨by rfl, ?ty132⟩) (by assumption) ?tr132
        case ty132 => (intro w hSw; (try dsimp only at hSw); go_simp; (try with_reducible rfl))
        try simp only [List.getElem_toArray, List.getElem_cons_succ, List.getElem_cons_zero, Act.put, List.setIfInBounds_toArray, List.set_cons_zero, List.set_cons_succ]
        refine Hd.take (i := 2) (v := ?tv133) hok rfl (by kernel_rfl) (fun _ _ _ h => h) (Or.inl ⟨by rfl, ?ty133⟩) (by assumption) ?tr133
        case ty133 => (intro w hSw; (try dsimp only at hSw); go_simp; (try with_reducible rfl))
        try simp only [List.getElem_toArray, List.getElem_cons_succ, List.getElem_cons_zero, Act.put, List.setIfInBounds_toArray, List.set_cons_zero, List.set_cons_succ]
        refine Hd.take (i := 3) (v := ?tv134) hok rfl (by kernel_rfl) (fun _ _ _ h => h) (Or.inl ⟨by rfl, ?ty134⟩) (by assumption) ?tr134
        case ty134 => (intro w hSw; (try dsimp only at hSw); go_simp; (try with_reducible rfl))
        try simp only [List.getElem_toArray, List.getElem_cons_succ, List.getElem_cons_zero, Act.put, List.setIfInBounds_toArray, List.set_cons_zero, List.set_cons_succ]
        refine Hd.take (i := 4) (v := ?tv135) hok rfl (by kernel_rfl) (fun _ _ _ h => h) (Or.inl ⟨by rfl, ?ty135⟩) (by assumption) ?tr135
        case ty135 => (intro w hSw; (try dsimp only at hSw); go_simp; (try with_reducible rfl))
        try simp only [List.getElem_toArray, List.getElem_cons_succ, List.getElem_cons_zero, Act.put, List.setIfInBounds_toArray, List.set_cons_zero, List.set_cons_succ]
        refine Hd.take (i := 5) (v := ?tv136) hok rfl (by kernel_rfl) (fun _ _ _ h => h) (Or.inl ⟨by rfl, ?ty136⟩) (by assumption) ?tr136
        case ty136 => (intro w hSw; (try dsimp only at hSw); go_simp; (try with_reducible rfl))
        try simp only [List.getElem_toArray, List.getElem_cons_succ, List.getElem_cons_zero, Act.put, List.setIfInBounds_toArray, List.set_cons_zero, List.set_cons_succ]
        refine Hd.one (i := 1) rfl (by kernel_rfl) (fun K hK => ?_)
        go_simp
        refine hcall.out.mono ?_
        rintro e w5 ⟨va, la, rfl, hla, hz5⟩
        dsimp only
        obtain rfl := all_same hI.out.al hla.out.1 hla.out.2
        have hrx := hz5.refAt 2 bx vx r rfl
        have hS1 := hrx.c0
        refine hK _ _ hS1 ?_
        clear hK K
        try simp only [List.getElem_toArray, List.getElem_cons_succ, List.getElem_cons_zero, Act.put, List.setIfInBounds_toArray, List.set_cons_zero, List.set_cons_succ]
        have hcall2 := Lib.hid (refSame_any va vx r.l w5 (hz5.row 0 rfl) hrx.own (by have := hI.out.len; omega))
        refine Hd.one (i := 6) rfl (by kernel_rfl) (fun K hK => ?_)
        go_simp
        refine hcall2.out.mono ?_
        rintro e w6 ⟨rfl, hb6⟩
        dsimp only
        have hz6 := hz5.below hb6.out
        refine hK _ _ (hz6.refAt 2 bx vx r rfl).c0 ?_
        clear hK K
        try simp only [List.getElem_toArray, List.getElem_cons_succ, List.getElem_cons_zero, Act.put, List.setIfInBounds_toArray, List.set_cons_zero, List.set_cons_succ]
        have hB := Lib.hid (hB1.out.trans (hz6.bel.mono hB1.out.size))
        refine Hd.done (by kernel_rfl) ?_
        simp only [List.drop_succ_cons, List.drop_zero]
        clear hcall hcall2 hz5 hz6 hrx hS0 hS1 hok hla hI hb6 c0
        go_wp2_with fail
        go_ret
        exact ⟨rfl, hB.out⟩
theorem netPlays_card (v : Value) (W : World) (h : ∃ ks : List ActD, ActsIn W v ks) : Calls Try.prog 6 #[v] W fun e w' => e = .returned (.bool true) ∧ Below W.heap.size W w' := by
  obtain ⟨ks, h⟩ := h
  exact netPlays_any v ks W h
end Go.Proofs.Ytjopbglimjhefaa
