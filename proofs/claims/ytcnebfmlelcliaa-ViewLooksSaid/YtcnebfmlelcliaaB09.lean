/- What every right program answers: alive, walked. (written by tools/gen_VsI.py) The document's Open and Told of views: walked. -/
import Derived.Test.YtcnebfmlelcliaaB08
namespace Go.Proofs.Ytcnebfmlelcliaa
set_option linter.unusedSimpArgs false
open Go.RowKit
attribute [local go_sem ↓] Go.wp_at_zero Go.wp_at_succ

theorem fore_perm {α : Type} : ∀ (L : List α) (i : Nat) (hi : i < L.length), L.Perm (L[i] :: L.eraseIdx i)
  | _ :: _, 0, _ => List.Perm.refl _
  | x :: L, i + 1, hi => ((fore_perm L i (by simpa using hi)).cons x).trans (List.Perm.swap _ _ _)
theorem Zoo.fore {W0 W : World} {L : List Th} {a : Th} (h : Zoo W0 W L) (i : Nat) (hi : L[i]? = some a) : Zoo W0 W (a :: L.eraseIdx i) := by
  obtain ⟨hl, rfl⟩ := List.getElem?_eq_some_iff.1 hi
  exact h.perm (fore_perm L i hl)
theorem rd_new (w : World) (us : List Nat) (t : TypeId) : Rd (w.alloc (.cells (us.map encU).toArray t)) (.slice (some ⟨w.heap.size, 0, none⟩) us.length us.length) us.length (us.map encU) := by
  refine ⟨_, _, rfl, .inr ⟨w.heap.size, 0, rfl, by simp, Nat.le_refl _, fun j u hu => ?_⟩⟩
  rw [Nat.zero_add, cell_at (heap_alloc_new w _) j, List.getElem?_toArray]
  exact hu
def alR : List (Nat × Nat) := [(1, 1), (2, 1), (3, 1)]
def alS : List (Nat × Nat) := [(1, 1), (3, 1), (4, 1)]
theorem bareL_fl (us : List Nat) : ∀ y ∈ bareL us, y.x.flags.length ≤ 100000 := fun y hy => by
  obtain ⟨u, -, rfl⟩ := List.mem_map.1 hy
  exact Nat.zero_le _
theorem al_open : (bareL [1, 2, 3]).map ltRow = alR := rfl
theorem al_sync : syncL alR ((bareL [1, 3, 4]).map ltRow) true = alS := by decide
theorem al_tell : tellR alR ((bareL [1, 3, 4]).map ltRow) true = [(9, 2), (8, 3)] := by decide
theorem say_two {rps : List Rp} {a b : Nat × Nat} (h : rps.map Rp.say = [a, b]) : ∃ x y : Rp, rps = [x, y] ∧ x.kind = a.1 ∧ x.n = a.2 ∧ y.kind = b.1 ∧ y.n = b.2 := by
  match rps, h with
  | [x, y], h =>
    simp only [List.map_cons, List.map_nil, List.cons.injEq] at h
    obtain ⟨h1, h2, -⟩ := h
    exact ⟨x, y, rfl, congrArg Prod.fst h1, congrArg Prod.snd h1, congrArg Prod.fst h2, congrArg Prod.snd h2⟩
set_option maxRecDepth 100000 in
set_option maxHeartbeats 16000000 in
theorem aliveV_any (W : World) : Calls Try.prog 5 #[] W fun e w' => e = .returned (.bool true) ∧ Hid (Below W.heap.size W w') := by
  have hz0 := Lib.hid ((Zoo.nil W).newBox [.int .u64 1, .int .u64 2, .int .u64 3].toArray 22)
  have hbx := Lib.hid (box_any_vw [1, 2, 3] (.slice (some ⟨W.heap.size, 0, none⟩) 3 3) _ (by decide) (rd_new W [1, 2, 3] 22))
  go_enter Try.func5, Try.ntmps5
  go_wp2_with fail
  refine hbx.out.mono ?_
  rintro e w2 ⟨a2, c2, rfl, hz2⟩
  have hz3 := Lib.hid (hz0.out.join hz2.out)
  have hop := Lib.hid (openV_any ⟨bareS, 2, 9, 9, bareL [1, 2, 3], a2, c2⟩ w2 (by show 3 ≤ 100000; decide) (bareL_in (hz3.out.own 0 rfl)))
  dsimp only at hop
  rw [al_open] at hop
  clear hz0 hz2 hbx
  go_wp2_with fail
  refine hop.out.mono ?_
  rintro e w3 ⟨vr, rfl, hz4⟩
  have hz5 : Hid (Zoo W w3 [rowT.rowC vr alR]) := Lib.hid ((hz3.out.join hz4.out).sub (List.Sublist.cons_cons _ (List.nil_sublist _)))
  obtain ⟨ar, cr, hvr⟩ := (hz5.out.ownC 0 rfl).len
  have hvr : vr = .slice ar 3 cr := hvr
  subst hvr
  have hz6 := hz5.out.newBox [.string bareS, .int .u64 2, .slice ar 3 cr].toArray 25
  generalize hV1 : w3.heap.size = V1 at hz6
  replace hz6 := Lib.hid hz6
  clear hz3 hz4 hop hz5
  go_upto_region 2 with fail
  generalize (w3.alloc (.cells [.string bareS, .int .u64 2, .slice ar 3 cr].toArray 25)) = w4 at hz6 ⊢
  go_cut [2, 3] (fun v2 v3 wx => ∃ (V2 : Nat) (a6 : Option Addr) (c6 : Nat) (ao : Option Addr) (co : Nat) (rps : List Rp), v2 = .pointer (some ⟨V2, 0, none⟩) ∧ v3 = .slice ao 2 co ∧ Hid (rps.map Rp.say = [(9, 2), (8, 3)]) ∧ Hid (Zoo W wx [boxT V2 [.string bareS, .int .u64 2, .slice a6 3 c6].toArray 25, rpT.row (.slice ao 2 co) rps, rowT.rowC (.slice a6 3 c6) alS, boxT V1 [.string bareS, .int .u64 2, .slice ar 3 cr].toArray 25, rowT.rowC (.slice ar 3 cr) alR]))
  case first =>
    have hzd := hz6.out.drew
    obtain ⟨hbV, -⟩ := hzd.box 0 rfl
    refine wp_region_hd (fun w' => w'.cell? ⟨V1, 0, none⟩ = some (.string bareS) ∧ w'.cell? ⟨V1, 1, none⟩ = some (.int .u64 2) ∧ w'.cell? ⟨V1, 2, none⟩ = some (.slice ar 3 cr)) 9 1 (by kernel_rfl) rfl ⟨by kernel_rfl, by kernel_rfl, by kernel_rfl, by decide⟩ ⟨box_cell hbV 0, box_cell hbV 1, box_cell hbV 2⟩ (fun hok hS0 => ?_)
    generalize w4.drew = wd at *
    refine Hd.take (i := 0) (v := ?tv41) hok rfl (by kernel_rfl) (fun _ _ _ h => h) (Or.inl ⟨by rfl, ?ty41⟩) (by assumption) ?tr41
    case ty41 => (intro w hSw; (try dsimp only at hSw); go_simp; (try with_reducible rfl))
    try simp only [List.getElem_toArray, List.getElem_cons_succ, List.getElem_cons_zero, Act.put, List.setIfInBounds_toArray, List.set_cons_zero, List.set_cons_succ]
    clear hz6 hbV
    refine Hd.two (i := 1) (k := 7) rfl rfl (by kernel_rfl) (fun K hK => ?_) (fun K hK => ?_)
    · go_simp
      have z1 := Zoo.newBox hzd [.int .u64 1, .int .u64 3, .int .u64 4].toArray 22
      have rd1 : Rd _ (.slice (some ⟨wd.heap.size, 0, none⟩) 3 3) 3 ([1, 3, 4].map encU) := rd_new wd [1, 3, 4] 22
      change Rd (wd.alloc (.cells [.int .u64 1, .int .u64 3, .int .u64 4].toArray 22)) _ _ _ at rd1
      generalize wd.heap.size = n1 at z1 rd1 ⊢
      generalize (wd.alloc (.cells [.int .u64 1, .int .u64 3, .int .u64 4].toArray 22)) = w1_ at z1 rd1 ⊢
      obtain ⟨hbS, -⟩ := Zoo.box z1 1 rfl
      refine hK _ _ ⟨box_cell hbS 0, box_cell hbS 1, box_cell hbS 2⟩ ?_
      clear hK K hbS
      try simp only [List.getElem_toArray, List.getElem_cons_succ, List.getElem_cons_zero, Act.put, List.setIfInBounds_toArray, List.set_cons_zero, List.set_cons_succ]
      refine Hd.two (i := 2) (k := 7) rfl rfl (by kernel_rfl) (fun K hK => ?_) (fun K hK => ?_)
      · go_simp
        refine (box_any_vw [1, 3, 4] _ w1_ (by decide) rd1).mono ?_
        rintro e w2_ ⟨a5, c5, rfl, hz5⟩
        dsimp only
        have z2 := Zoo.join z1 hz5.out
        have li2 := bareL_in (z2.own 0 rfl)
        obtain ⟨hbS, -⟩ := Zoo.box z2 2 rfl
        refine hK _ _ ⟨box_cell hbS 0, box_cell hbS 1, box_cell hbS 2⟩ ?_
        clear hK K hbS
        try simp only [List.getElem_toArray, List.getElem_cons_succ, List.getElem_cons_zero, Act.put, List.setIfInBounds_toArray, List.set_cons_zero, List.set_cons_succ]
        refine Hd.two (i := 3) (k := 7) rfl rfl (by kernel_rfl) (fun K hK => ?_) (fun K hK => ?_)
        · go_simp
          refine (sync_any ⟨bareS, 2, 9, 9, bareL [1, 3, 4], a5, c5⟩ alR (.slice ar 3 cr) true false w2_ (by decide) (by show 3 ≤ 100000; decide) (Zoo.ownC z2 3 rfl).rd.ranges li2 (bareL_fl _)).mono ?_
          rintro e w3_ ⟨v6, vo, rps, rfl, hz6, hsay⟩
          dsimp only
          rw [al_sync] at hz6
          rw [al_tell] at hsay
          obtain ⟨a6, c6, hv6⟩ := (hz6.out.ownC 1 rfl).len
          have hv6 : v6 = .slice a6 3 c6 := hv6
          subst hv6
          obtain ⟨ao, co, hvo⟩ := (hz6.out.own 0 rfl).len
          have hrl : rps.length = 2 := by have := congrArg List.length hsay.out; simpa using this
          rw [hrl] at hvo
          subst hvo
          have z3 := Zoo.join z2 hz6.out
          obtain ⟨hbS, -⟩ := Zoo.box z3 4 rfl
          refine hK _ _ ⟨box_cell hbS 0, box_cell hbS 1, box_cell hbS 2⟩ ?_
          clear hK K hbS
          try simp only [List.getElem_toArray, List.getElem_cons_succ, List.getElem_cons_zero, Act.put, List.setIfInBounds_toArray, List.set_cons_zero, List.set_cons_succ]
          obtain ⟨hbS, -⟩ := Zoo.box z3 4 rfl
          have hSn : w3_.cell? ⟨V1, 0, none⟩ = some (.string bareS) ∧ w3_.cell? ⟨V1, 1, none⟩ = some (.int .u64 2) ∧ w3_.cell? ⟨V1, 2, none⟩ = some (.slice ar 3 cr) := ⟨box_cell hbS 0, box_cell hbS 1, box_cell hbS 2⟩
          clear hbS
          refine Hd.take (i := 4) (v := ?tv42) hok rfl (by kernel_rfl) (fun _ _ _ h => h) (Or.inl ⟨by rfl, ?ty42⟩) (by assumption) ?tr42
          case ty42 => (intro w hSw; (try dsimp only at hSw); go_simp; (try with_reducible rfl))
          try simp only [List.getElem_toArray, List.getElem_cons_succ, List.getElem_cons_zero, Act.put, List.setIfInBounds_toArray, List.set_cons_zero, List.set_cons_succ]
          refine Hd.take (i := 5) (v := ?tv43) hok rfl (by kernel_rfl) (fun _ _ _ h => h) (Or.inl ⟨by rfl, ?ty43⟩) (by assumption) ?tr43
          case ty43 => (intro w hSw; (try dsimp only at hSw); go_simp; (try with_reducible rfl))
          try simp only [List.getElem_toArray, List.getElem_cons_succ, List.getElem_cons_zero, Act.put, List.setIfInBounds_toArray, List.set_cons_zero, List.set_cons_succ]
          refine Hd.take (i := 6) (v := ?tv44) hok rfl (by kernel_rfl) (fun _ _ _ h => h) (Or.inl ⟨by rfl, ?ty44⟩) (by assumption) ?tr44
          case ty44 => (intro w hSw; (try dsimp only at hSw); go_simp; (try with_reducible rfl))
          try simp only [List.getElem_toArray, List.getElem_cons_succ, List.getElem_cons_zero, Act.put, List.setIfInBounds_toArray, List.set_cons_zero, List.set_cons_succ]
          clear hSn
          refine Hd.one (i := 7) rfl (by kernel_rfl) (fun K hK => ?_)
          go_simp
          have z4 := Zoo.newBox z3 [.string ⟨#[]⟩, .int .u64 0, .slice none 0 0].toArray 25
          have bl4 := (Below.refl w3_.heap.size w3_).alloc (Nat.le_refl _) (.cells [.string ⟨#[]⟩, .int .u64 0, .slice none 0 0].toArray 25)
          generalize hn4 : w3_.heap.size = n4 at z4
          generalize (w3_.alloc (.cells [.string ⟨#[]⟩, .int .u64 0, .slice none 0 0].toArray 25)) = w4_ at z4 bl4 ⊢
          obtain ⟨hbS, -⟩ := Zoo.box z4 5 rfl
          refine hK _ _ ⟨box_cell hbS 0, box_cell hbS 1, box_cell hbS 2⟩ ?_
          clear hK K hbS
          try simp only [List.getElem_toArray, List.getElem_cons_succ, List.getElem_cons_zero, Act.put, List.setIfInBounds_toArray, List.set_cons_zero, List.set_cons_succ]
          have zf := Lib.hid (Zoo.fore z4 0 rfl)
          obtain ⟨hbZ, -⟩ := zf.out.box 0 rfl
          have s0 := box_cell hbZ 0
          have s1 := box_cell hbZ 1
          have s2 := box_cell hbZ 2
          simp at s0 s1 s2
          have f0 := box_free hbZ 0
          have f1 := box_free hbZ 1
          have f2 := box_free hbZ 2
          have zg := Lib.hid (zf.out.fillBox (C := [.string ⟨#[]⟩, .int .u64 0, .slice none 0 0]) 0 rfl [.string bareS, .int .u64 2, .slice a6 3 c6] rfl)
          simp only [World.setCells, Nat.zero_add] at zg
          refine Hd.one (i := 8) rfl (by kernel_rfl) (fun K hK => ?_)
          go_simp
          obtain ⟨hbS, -⟩ := Zoo.box zg.out 5 rfl
          refine hK _ _ ⟨box_cell hbS 0, box_cell hbS 1, box_cell hbS 2⟩ ?_
          clear hK K hbS
          try simp only [List.getElem_toArray, List.getElem_cons_succ, List.getElem_cons_zero, Act.put, List.setIfInBounds_toArray, List.set_cons_zero, List.set_cons_succ]
          refine Hd.done (by kernel_rfl) ?_
          simp only [List.drop_succ_cons, List.drop_zero]
          have zh := Lib.hid (zg.out.sub (L' := [_, _, _, _, _]) (List.Sublist.cons_cons _ (List.Sublist.cons_cons _ (List.Sublist.cons_cons _ (List.Sublist.cons _ (List.Sublist.cons _ (List.Sublist.cons_cons _ (List.Sublist.cons_cons _ (List.nil_sublist _)))))))))
          replace hsay := Lib.hid hsay
          clear hok hS0 hzd zf zg hbZ s0 s1 s2 f0 f1 f2
          go_wp2_with fail
          go_meet
          case rel => exact ⟨_, a6, c6, ao, co, rps, rfl, rfl, hsay.out, zh⟩
        · go_simp
          have z5 := Zoo.newBox z2 [.string ⟨#[]⟩, .int .u64 0, .slice none 0 0].toArray 25
          have bl5 := (Below.refl w2_.heap.size w2_).alloc (Nat.le_refl _) (.cells [.string ⟨#[]⟩, .int .u64 0, .slice none 0 0].toArray 25)
          generalize hn5 : w2_.heap.size = n5 at z5
          generalize (w2_.alloc (.cells [.string ⟨#[]⟩, .int .u64 0, .slice none 0 0].toArray 25)) = w5_ at z5 bl5 ⊢
          have li5 := li2.below bl5
          obtain ⟨hbS, -⟩ := Zoo.box z5 3 rfl
          refine hK _ _ ⟨box_cell hbS 0, box_cell hbS 1, box_cell hbS 2⟩ ?_
          clear hK K hbS
          try simp only [List.getElem_toArray, List.getElem_cons_succ, List.getElem_cons_zero, Act.put, List.setIfInBounds_toArray, List.set_cons_zero, List.set_cons_succ]
          refine Hd.one (i := 3) rfl (by kernel_rfl) (fun K hK => ?_)
          go_simp
          refine (sync_any ⟨bareS, 2, 9, 9, bareL [1, 3, 4], a5, c5⟩ alR (.slice ar 3 cr) true false w5_ (by decide) (by show 3 ≤ 100000; decide) (Zoo.ownC z5 4 rfl).rd.ranges li5 (bareL_fl _)).mono ?_
          rintro e w6_ ⟨v6, vo, rps, rfl, hz6, hsay⟩
          dsimp only
          rw [al_sync] at hz6
          rw [al_tell] at hsay
          obtain ⟨a6, c6, hv6⟩ := (hz6.out.ownC 1 rfl).len
          have hv6 : v6 = .slice a6 3 c6 := hv6
          subst hv6
          obtain ⟨ao, co, hvo⟩ := (hz6.out.own 0 rfl).len
          have hrl : rps.length = 2 := by have := congrArg List.length hsay.out; simpa using this
          rw [hrl] at hvo
          subst hvo
          have z6 := Zoo.join z5 hz6.out
          obtain ⟨hbS, -⟩ := Zoo.box z6 5 rfl
          refine hK _ _ ⟨box_cell hbS 0, box_cell hbS 1, box_cell hbS 2⟩ ?_
          clear hK K hbS
          try simp only [List.getElem_toArray, List.getElem_cons_succ, List.getElem_cons_zero, Act.put, List.setIfInBounds_toArray, List.set_cons_zero, List.set_cons_succ]
          obtain ⟨hbS, -⟩ := Zoo.box z6 5 rfl
          have hSn : w6_.cell? ⟨V1, 0, none⟩ = some (.string bareS) ∧ w6_.cell? ⟨V1, 1, none⟩ = some (.int .u64 2) ∧ w6_.cell? ⟨V1, 2, none⟩ = some (.slice ar 3 cr) := ⟨box_cell hbS 0, box_cell hbS 1, box_cell hbS 2⟩
          clear hbS
          refine Hd.take (i := 4) (v := ?tv45) hok rfl (by kernel_rfl) (fun _ _ _ h => h) (Or.inl ⟨by rfl, ?ty45⟩) (by assumption) ?tr45
          case ty45 => (intro w hSw; (try dsimp only at hSw); go_simp; (try with_reducible rfl))
          try simp only [List.getElem_toArray, List.getElem_cons_succ, List.getElem_cons_zero, Act.put, List.setIfInBounds_toArray, List.set_cons_zero, List.set_cons_succ]
          refine Hd.take (i := 5) (v := ?tv46) hok rfl (by kernel_rfl) (fun _ _ _ h => h) (Or.inl ⟨by rfl, ?ty46⟩) (by assumption) ?tr46
          case ty46 => (intro w hSw; (try dsimp only at hSw); go_simp; (try with_reducible rfl))
          try simp only [List.getElem_toArray, List.getElem_cons_succ, List.getElem_cons_zero, Act.put, List.setIfInBounds_toArray, List.set_cons_zero, List.set_cons_succ]
          refine Hd.take (i := 6) (v := ?tv47) hok rfl (by kernel_rfl) (fun _ _ _ h => h) (Or.inl ⟨by rfl, ?ty47⟩) (by assumption) ?tr47
          case ty47 => (intro w hSw; (try dsimp only at hSw); go_simp; (try with_reducible rfl))
          try simp only [List.getElem_toArray, List.getElem_cons_succ, List.getElem_cons_zero, Act.put, List.setIfInBounds_toArray, List.set_cons_zero, List.set_cons_succ]
          clear hSn
          have zf := Lib.hid (Zoo.fore z6 2 rfl)
          obtain ⟨hbZ, -⟩ := zf.out.box 0 rfl
          have s0 := box_cell hbZ 0
          have s1 := box_cell hbZ 1
          have s2 := box_cell hbZ 2
          simp at s0 s1 s2
          have f0 := box_free hbZ 0
          have f1 := box_free hbZ 1
          have f2 := box_free hbZ 2
          have zg := Lib.hid (zf.out.fillBox (C := [.string ⟨#[]⟩, .int .u64 0, .slice none 0 0]) 0 rfl [.string bareS, .int .u64 2, .slice a6 3 c6] rfl)
          simp only [World.setCells, Nat.zero_add] at zg
          refine Hd.one (i := 8) rfl (by kernel_rfl) (fun K hK => ?_)
          go_simp
          obtain ⟨hbS, -⟩ := Zoo.box zg.out 5 rfl
          refine hK _ _ ⟨box_cell hbS 0, box_cell hbS 1, box_cell hbS 2⟩ ?_
          clear hK K hbS
          try simp only [List.getElem_toArray, List.getElem_cons_succ, List.getElem_cons_zero, Act.put, List.setIfInBounds_toArray, List.set_cons_zero, List.set_cons_succ]
          refine Hd.done (by kernel_rfl) ?_
          simp only [List.drop_succ_cons, List.drop_zero]
          have zh := Lib.hid (zg.out.sub (L' := [_, _, _, _, _]) (List.Sublist.cons_cons _ (List.Sublist.cons_cons _ (List.Sublist.cons_cons _ (List.Sublist.cons _ (List.Sublist.cons _ (List.Sublist.cons_cons _ (List.Sublist.cons_cons _ (List.nil_sublist _)))))))))
          replace hsay := Lib.hid hsay
          clear hok hS0 hzd zf zg hbZ s0 s1 s2 f0 f1 f2
          go_wp2_with fail
          go_meet
          case rel => exact ⟨_, a6, c6, ao, co, rps, rfl, rfl, hsay.out, zh⟩
      · go_simp
        have z7 := Zoo.newBox z1 [.string ⟨#[]⟩, .int .u64 0, .slice none 0 0].toArray 25
        have bl7 := (Below.refl w1_.heap.size w1_).alloc (Nat.le_refl _) (.cells [.string ⟨#[]⟩, .int .u64 0, .slice none 0 0].toArray 25)
        generalize hn7 : w1_.heap.size = n7 at z7
        generalize (w1_.alloc (.cells [.string ⟨#[]⟩, .int .u64 0, .slice none 0 0].toArray 25)) = w7_ at z7 bl7 ⊢
        have rd7 := rd1.below bl7
        obtain ⟨hbS, -⟩ := Zoo.box z7 2 rfl
        refine hK _ _ ⟨box_cell hbS 0, box_cell hbS 1, box_cell hbS 2⟩ ?_
        clear hK K hbS
        try simp only [List.getElem_toArray, List.getElem_cons_succ, List.getElem_cons_zero, Act.put, List.setIfInBounds_toArray, List.set_cons_zero, List.set_cons_succ]
        refine Hd.one (i := 2) rfl (by kernel_rfl) (fun K hK => ?_)
        go_simp
        refine (box_any_vw [1, 3, 4] _ w7_ (by decide) rd7).mono ?_
        rintro e w8_ ⟨a5, c5, rfl, hz5⟩
        dsimp only
        have z8 := Zoo.join z7 hz5.out
        have li8 := bareL_in (z8.own 0 rfl)
        obtain ⟨hbS, -⟩ := Zoo.box z8 3 rfl
        refine hK _ _ ⟨box_cell hbS 0, box_cell hbS 1, box_cell hbS 2⟩ ?_
        clear hK K hbS
        try simp only [List.getElem_toArray, List.getElem_cons_succ, List.getElem_cons_zero, Act.put, List.setIfInBounds_toArray, List.set_cons_zero, List.set_cons_succ]
        refine Hd.one (i := 3) rfl (by kernel_rfl) (fun K hK => ?_)
        go_simp
        refine (sync_any ⟨bareS, 2, 9, 9, bareL [1, 3, 4], a5, c5⟩ alR (.slice ar 3 cr) true false w8_ (by decide) (by show 3 ≤ 100000; decide) (Zoo.ownC z8 4 rfl).rd.ranges li8 (bareL_fl _)).mono ?_
        rintro e w9_ ⟨v6, vo, rps, rfl, hz6, hsay⟩
        dsimp only
        rw [al_sync] at hz6
        rw [al_tell] at hsay
        obtain ⟨a6, c6, hv6⟩ := (hz6.out.ownC 1 rfl).len
        have hv6 : v6 = .slice a6 3 c6 := hv6
        subst hv6
        obtain ⟨ao, co, hvo⟩ := (hz6.out.own 0 rfl).len
        have hrl : rps.length = 2 := by have := congrArg List.length hsay.out; simpa using this
        rw [hrl] at hvo
        subst hvo
        have z9 := Zoo.join z8 hz6.out
        obtain ⟨hbS, -⟩ := Zoo.box z9 5 rfl
        refine hK _ _ ⟨box_cell hbS 0, box_cell hbS 1, box_cell hbS 2⟩ ?_
        clear hK K hbS
        try simp only [List.getElem_toArray, List.getElem_cons_succ, List.getElem_cons_zero, Act.put, List.setIfInBounds_toArray, List.set_cons_zero, List.set_cons_succ]
        obtain ⟨hbS, -⟩ := Zoo.box z9 5 rfl
        have hSn : w9_.cell? ⟨V1, 0, none⟩ = some (.string bareS) ∧ w9_.cell? ⟨V1, 1, none⟩ = some (.int .u64 2) ∧ w9_.cell? ⟨V1, 2, none⟩ = some (.slice ar 3 cr) := ⟨box_cell hbS 0, box_cell hbS 1, box_cell hbS 2⟩
        clear hbS
        refine Hd.take (i := 4) (v := ?tv48) hok rfl (by kernel_rfl) (fun _ _ _ h => h) (Or.inl ⟨by rfl, ?ty48⟩) (by assumption) ?tr48
        case ty48 => (intro w hSw; (try dsimp only at hSw); go_simp; (try with_reducible rfl))
        try simp only [List.getElem_toArray, List.getElem_cons_succ, List.getElem_cons_zero, Act.put, List.setIfInBounds_toArray, List.set_cons_zero, List.set_cons_succ]
        refine Hd.take (i := 5) (v := ?tv49) hok rfl (by kernel_rfl) (fun _ _ _ h => h) (Or.inl ⟨by rfl, ?ty49⟩) (by assumption) ?tr49
        case ty49 => (intro w hSw; (try dsimp only at hSw); go_simp; (try with_reducible rfl))
        try simp only [List.getElem_toArray, List.getElem_cons_succ, List.getElem_cons_zero, Act.put, List.setIfInBounds_toArray, List.set_cons_zero, List.set_cons_succ]
        refine Hd.take (i := 6) (v := ?tv50) hok rfl (by kernel_rfl) (fun _ _ _ h => h) (Or.inl ⟨by rfl, ?ty50⟩) (by assumption) ?tr50
        case ty50 => (intro w hSw; (try dsimp only at hSw); go_simp; (try with_reducible rfl))
        try simp only [List.getElem_toArray, List.getElem_cons_succ, List.getElem_cons_zero, Act.put, List.setIfInBounds_toArray, List.set_cons_zero, List.set_cons_succ]
        clear hSn
        have zf := Lib.hid (Zoo.fore z9 3 rfl)
        obtain ⟨hbZ, -⟩ := zf.out.box 0 rfl
        have s0 := box_cell hbZ 0
        have s1 := box_cell hbZ 1
        have s2 := box_cell hbZ 2
        simp at s0 s1 s2
        have f0 := box_free hbZ 0
        have f1 := box_free hbZ 1
        have f2 := box_free hbZ 2
        have zg := Lib.hid (zf.out.fillBox (C := [.string ⟨#[]⟩, .int .u64 0, .slice none 0 0]) 0 rfl [.string bareS, .int .u64 2, .slice a6 3 c6] rfl)
        simp only [World.setCells, Nat.zero_add] at zg
        refine Hd.one (i := 8) rfl (by kernel_rfl) (fun K hK => ?_)
        go_simp
        obtain ⟨hbS, -⟩ := Zoo.box zg.out 5 rfl
        refine hK _ _ ⟨box_cell hbS 0, box_cell hbS 1, box_cell hbS 2⟩ ?_
        clear hK K hbS
        try simp only [List.getElem_toArray, List.getElem_cons_succ, List.getElem_cons_zero, Act.put, List.setIfInBounds_toArray, List.set_cons_zero, List.set_cons_succ]
        refine Hd.done (by kernel_rfl) ?_
        simp only [List.drop_succ_cons, List.drop_zero]
        have zh := Lib.hid (zg.out.sub (L' := [_, _, _, _, _]) (List.Sublist.cons_cons _ (List.Sublist.cons_cons _ (List.Sublist.cons_cons _ (List.Sublist.cons _ (List.Sublist.cons _ (List.Sublist.cons_cons _ (List.Sublist.cons_cons _ (List.nil_sublist _)))))))))
        replace hsay := Lib.hid hsay
        clear hok hS0 hzd zf zg hbZ s0 s1 s2 f0 f1 f2
        go_wp2_with fail
        go_meet
        case rel => exact ⟨_, a6, c6, ao, co, rps, rfl, rfl, hsay.out, zh⟩
    · go_simp
      have z10 := Zoo.newBox hzd [.string ⟨#[]⟩, .int .u64 0, .slice none 0 0].toArray 25
      have bl10 := (Below.refl wd.heap.size wd).alloc (Nat.le_refl _) (.cells [.string ⟨#[]⟩, .int .u64 0, .slice none 0 0].toArray 25)
      generalize hn10 : wd.heap.size = n10 at z10
      generalize (wd.alloc (.cells [.string ⟨#[]⟩, .int .u64 0, .slice none 0 0].toArray 25)) = w10_ at z10 bl10 ⊢
      obtain ⟨hbS, -⟩ := Zoo.box z10 1 rfl
      refine hK _ _ ⟨box_cell hbS 0, box_cell hbS 1, box_cell hbS 2⟩ ?_
      clear hK K hbS
      try simp only [List.getElem_toArray, List.getElem_cons_succ, List.getElem_cons_zero, Act.put, List.setIfInBounds_toArray, List.set_cons_zero, List.set_cons_succ]
      refine Hd.one (i := 1) rfl (by kernel_rfl) (fun K hK => ?_)
      go_simp
      have z11 := Zoo.newBox z10 [.int .u64 1, .int .u64 3, .int .u64 4].toArray 22
      have rd11 : Rd _ (.slice (some ⟨w10_.heap.size, 0, none⟩) 3 3) 3 ([1, 3, 4].map encU) := rd_new w10_ [1, 3, 4] 22
      change Rd (w10_.alloc (.cells [.int .u64 1, .int .u64 3, .int .u64 4].toArray 22)) _ _ _ at rd11
      generalize w10_.heap.size = n11 at z11 rd11 ⊢
      generalize (w10_.alloc (.cells [.int .u64 1, .int .u64 3, .int .u64 4].toArray 22)) = w11_ at z11 rd11 ⊢
      obtain ⟨hbS, -⟩ := Zoo.box z11 2 rfl
      refine hK _ _ ⟨box_cell hbS 0, box_cell hbS 1, box_cell hbS 2⟩ ?_
      clear hK K hbS
      try simp only [List.getElem_toArray, List.getElem_cons_succ, List.getElem_cons_zero, Act.put, List.setIfInBounds_toArray, List.set_cons_zero, List.set_cons_succ]
      refine Hd.one (i := 2) rfl (by kernel_rfl) (fun K hK => ?_)
      go_simp
      refine (box_any_vw [1, 3, 4] _ w11_ (by decide) rd11).mono ?_
      rintro e w12_ ⟨a5, c5, rfl, hz5⟩
      dsimp only
      have z12 := Zoo.join z11 hz5.out
      have li12 := bareL_in (z12.own 0 rfl)
      obtain ⟨hbS, -⟩ := Zoo.box z12 3 rfl
      refine hK _ _ ⟨box_cell hbS 0, box_cell hbS 1, box_cell hbS 2⟩ ?_
      clear hK K hbS
      try simp only [List.getElem_toArray, List.getElem_cons_succ, List.getElem_cons_zero, Act.put, List.setIfInBounds_toArray, List.set_cons_zero, List.set_cons_succ]
      refine Hd.one (i := 3) rfl (by kernel_rfl) (fun K hK => ?_)
      go_simp
      refine (sync_any ⟨bareS, 2, 9, 9, bareL [1, 3, 4], a5, c5⟩ alR (.slice ar 3 cr) true false w12_ (by decide) (by show 3 ≤ 100000; decide) (Zoo.ownC z12 4 rfl).rd.ranges li12 (bareL_fl _)).mono ?_
      rintro e w13_ ⟨v6, vo, rps, rfl, hz6, hsay⟩
      dsimp only
      rw [al_sync] at hz6
      rw [al_tell] at hsay
      obtain ⟨a6, c6, hv6⟩ := (hz6.out.ownC 1 rfl).len
      have hv6 : v6 = .slice a6 3 c6 := hv6
      subst hv6
      obtain ⟨ao, co, hvo⟩ := (hz6.out.own 0 rfl).len
      have hrl : rps.length = 2 := by have := congrArg List.length hsay.out; simpa using this
      rw [hrl] at hvo
      subst hvo
      have z13 := Zoo.join z12 hz6.out
      obtain ⟨hbS, -⟩ := Zoo.box z13 5 rfl
      refine hK _ _ ⟨box_cell hbS 0, box_cell hbS 1, box_cell hbS 2⟩ ?_
      clear hK K hbS
      try simp only [List.getElem_toArray, List.getElem_cons_succ, List.getElem_cons_zero, Act.put, List.setIfInBounds_toArray, List.set_cons_zero, List.set_cons_succ]
      obtain ⟨hbS, -⟩ := Zoo.box z13 5 rfl
      have hSn : w13_.cell? ⟨V1, 0, none⟩ = some (.string bareS) ∧ w13_.cell? ⟨V1, 1, none⟩ = some (.int .u64 2) ∧ w13_.cell? ⟨V1, 2, none⟩ = some (.slice ar 3 cr) := ⟨box_cell hbS 0, box_cell hbS 1, box_cell hbS 2⟩
      clear hbS
      refine Hd.take (i := 4) (v := ?tv51) hok rfl (by kernel_rfl) (fun _ _ _ h => h) (Or.inl ⟨by rfl, ?ty51⟩) (by assumption) ?tr51
      case ty51 => (intro w hSw; (try dsimp only at hSw); go_simp; (try with_reducible rfl))
      try simp only [List.getElem_toArray, List.getElem_cons_succ, List.getElem_cons_zero, Act.put, List.setIfInBounds_toArray, List.set_cons_zero, List.set_cons_succ]
      refine Hd.take (i := 5) (v := ?tv52) hok rfl (by kernel_rfl) (fun _ _ _ h => h) (Or.inl ⟨by rfl, ?ty52⟩) (by assumption) ?tr52
      case ty52 => (intro w hSw; (try dsimp only at hSw); go_simp; (try with_reducible rfl))
      try simp only [List.getElem_toArray, List.getElem_cons_succ, List.getElem_cons_zero, Act.put, List.setIfInBounds_toArray, List.set_cons_zero, List.set_cons_succ]
      refine Hd.take (i := 6) (v := ?tv53) hok rfl (by kernel_rfl) (fun _ _ _ h => h) (Or.inl ⟨by rfl, ?ty53⟩) (by assumption) ?tr53
      case ty53 => (intro w hSw; (try dsimp only at hSw); go_simp; (try with_reducible rfl))
      try simp only [List.getElem_toArray, List.getElem_cons_succ, List.getElem_cons_zero, Act.put, List.setIfInBounds_toArray, List.set_cons_zero, List.set_cons_succ]
      clear hSn
      have zf := Lib.hid (Zoo.fore z13 4 rfl)
      obtain ⟨hbZ, -⟩ := zf.out.box 0 rfl
      have s0 := box_cell hbZ 0
      have s1 := box_cell hbZ 1
      have s2 := box_cell hbZ 2
      simp at s0 s1 s2
      have f0 := box_free hbZ 0
      have f1 := box_free hbZ 1
      have f2 := box_free hbZ 2
      have zg := Lib.hid (zf.out.fillBox (C := [.string ⟨#[]⟩, .int .u64 0, .slice none 0 0]) 0 rfl [.string bareS, .int .u64 2, .slice a6 3 c6] rfl)
      simp only [World.setCells, Nat.zero_add] at zg
      refine Hd.one (i := 8) rfl (by kernel_rfl) (fun K hK => ?_)
      go_simp
      obtain ⟨hbS, -⟩ := Zoo.box zg.out 5 rfl
      refine hK _ _ ⟨box_cell hbS 0, box_cell hbS 1, box_cell hbS 2⟩ ?_
      clear hK K hbS
      try simp only [List.getElem_toArray, List.getElem_cons_succ, List.getElem_cons_zero, Act.put, List.setIfInBounds_toArray, List.set_cons_zero, List.set_cons_succ]
      refine Hd.done (by kernel_rfl) ?_
      simp only [List.drop_succ_cons, List.drop_zero]
      have zh := Lib.hid (zg.out.sub (L' := [_, _, _, _, _]) (List.Sublist.cons_cons _ (List.Sublist.cons_cons _ (List.Sublist.cons_cons _ (List.Sublist.cons _ (List.Sublist.cons _ (List.Sublist.cons_cons _ (List.Sublist.cons_cons _ (List.nil_sublist _)))))))))
      replace hsay := Lib.hid hsay
      clear hok hS0 hzd zf zg hbZ s0 s1 s2 f0 f1 f2
      go_wp2_with fail
      go_meet
      case rel => exact ⟨_, a6, c6, ao, co, rps, rfl, rfl, hsay.out, zh⟩
  case rest =>
  obtain ⟨V2, a6, c6, ao, co, rps, rfl, rfl, hsay, hz7⟩ := hcut
  generalize wc = w5 at *
  clear hz6
  obtain ⟨x, y, rfl, hx1, hx2, hy1, hy2⟩ := say_two hsay.out
  obtain ⟨hbV, -⟩ := hz7.out.box 3 rfl
  have s0 : w5.cell? ⟨V1, 0, none⟩ = some (.string bareS) := box_cell hbV 0
  have s1 : w5.cell? ⟨V1, 1, none⟩ = some (.int .u64 2) := box_cell hbV 1
  have s2 : w5.cell? ⟨V1, 2, none⟩ = some (.slice ar 3 cr) := box_cell hbV 2
  have hza := Lib.hid (hz7.out.alloc (.cells #[.int .u64 2, .int .u64 0] 57))
  have hme := Lib.hid (meantNum_any bareS 2 [(2, 0)] alR (.slice ar 3 cr) (.slice (some ⟨w5.heap.size, 0, none⟩) 1 1) (w5.alloc (.cells #[.int .u64 2, .int .u64 0] 57)) (by decide) (by decide) (hza.out.ownC 4 rfl).rd.ranges (OwnR.one w5 2 0).ranges)
  clear hbV hsay
  go_wp2_with fail
  refine hme.out.mono ?_
  rintro e w6 ⟨v6, rfl, ho6, hb6⟩
  have hz8 := Lib.hid (hza.out.below hb6.out)
  have ho7 : Hid (OwnN w6 (w5.alloc (.cells #[.int .u64 2, .int .u64 0] 57)).heap.size v6 [2, 3]) := ho6
  have hz9 := Lib.hid (hz8.out.alloc (.cells #[.int .u64 2, .int .u64 3] 22))
  have hsn := Lib.hid (sameNums_any v6 (.slice (some ⟨w6.heap.size, 0, none⟩) 2 2) [2, 3] [2, 3] (w6.alloc (.cells #[.int .u64 2, .int .u64 3] 22)) (ho7.out.alloc _).rd (rd_new w6 [2, 3] 22) (by decide))
  obtain ⟨a7, c7, hv7⟩ := ho7.out.len
  have hv7 : v6 = .slice a7 2 c7 := hv7
  subst hv7
  obtain ⟨g, cap, hvo, -, hgl, hrc⟩ := (hz8.out.own 1 rfl).cells (j := 0) (by simp)
  obtain ⟨g', cap', hvo', -, -, hrc'⟩ := (hz8.out.own 1 rfl).cells (j := 1) (by simp)
  injection hvo with e1 e2 e3
  subst e1
  injection hvo' with e1' e2' e3'
  injection e1' with e1'
  injection e1' with e1'
  subst e1'
  obtain ⟨hbV, -⟩ := hz8.out.box 0 rfl
  have k0 : w6.cell? ⟨g, 0, none⟩ = some (.int .i64 9) := by have := hrc 0 (by decide); rw [show rpT.K = 10 from rfl, Nat.zero_mul] at this; rw [this]; show some (Value.int .i64 (x.kind : Int)) = _; rw [hx1]; rfl
  have k4 : w6.cell? ⟨g, 4, none⟩ = some (.int .u64 2) := by have := hrc 4 (by decide); rw [show rpT.K = 10 from rfl, Nat.zero_mul] at this; rw [this]; show some (Value.int .u64 (x.n : Int)) = _; rw [hx2]; rfl
  have k10 : w6.cell? ⟨g, 10, none⟩ = some (.int .i64 8) := by have := hrc' 0 (by decide); rw [show rpT.K = 10 from rfl, Nat.one_mul] at this; rw [this]; show some (Value.int .i64 (y.kind : Int)) = _; rw [hy1]; rfl
  have k14 : w6.cell? ⟨g, 14, none⟩ = some (.int .u64 3) := by have := hrc' 4 (by decide); rw [show rpT.K = 10 from rfl, Nat.one_mul] at this; rw [this]; show some (Value.int .u64 (y.n : Int)) = _; rw [hy2]; rfl
  have v2 : w6.cell? ⟨V2, 2, none⟩ = some (.slice a6 3 c6) := box_cell hbV 2
  obtain ⟨g2, cap2, rest2, hv2, -, -, hpr2, -⟩ := (hz8.out.ownC 2 rfl).row (by decide)
  injection hv2 with q1 q2 q3
  subst q1
  have r4 : w6.cell? ⟨g2, 4, none⟩ = some (.int .u64 4) := hpr2.cell 2 0 (by decide) (by decide)
  have hbF := Lib.hid hz9.out.bel
  clear s0 s1 s2 hme ho6 hb6 hza hz7 hrc hrc' hx1 hx2 hy1 hy2 hbV e2 e3 e2' e3' q2 q3 ho7 hz8 hz9 hpr2
  go_wp2_with fail
  refine hsn.out.mono ?_
  rintro e w7 ⟨rfl, hb7⟩
  have hbE := Lib.hid (hbF.out.trans (hb7.mono hbF.out.size))
  clear hsn hb7 hbF
  go_wp2_with fail
  go_ret
  exact ⟨rfl, hbE⟩
end Go.Proofs.Ytcnebfmlelcliaa
namespace Go.Proofs.Ytcnebfmlelcliaa
set_option linter.unusedSimpArgs false
open Go.RowKit
attribute [local go_sem ↓] Go.wp_at_zero Go.wp_at_succ

set_option maxRecDepth 100000 in
set_option maxHeartbeats 16000000 in
theorem refOpenV_any (z : BxV) (W : World) (hzl : z.rows.length ≤ 100000) (hb : LtsIn W z.v z.rows) :
    Calls Try.prog 9 #[.agg #[.string z.name, .int .u64 z.validity, .int .u64 z.next, .int .u64 z.high, .slice z.a z.rows.length z.c]] W (ViewRet W z.name z.validity (z.rows.map ltRow)) := by
  obtain ⟨nm, val, nx, hi, rows, a, c⟩ := z
  dsimp only at hzl hb ⊢
  have hb0 := Lib.hid (fun (W' : World) (h : Below W.heap.size W W') => hb.below h)
  have hz1 := (Zoo.nil W).newBox [.string nm, .int .u64 val, .int .u64 nx, .int .u64 hi, .slice a rows.length c].toArray 28
  generalize hBB : W.heap.size = BB at hz1
  generalize hWa : (W.alloc (.cells [.string nm, .int .u64 val, .int .u64 nx, .int .u64 hi, .slice a rows.length c].toArray 28)) = Wa at hz1
  have hz2 := hz1.newBox [.string ⟨#[]⟩, .int .u64 0, .slice none 0 0].toArray 25
  generalize hRB : Wa.heap.size = RB at hz2
  generalize hWb : (Wa.alloc (.cells [.string ⟨#[]⟩, .int .u64 0, .slice none 0 0].toArray 25)) = Wb at hz2
  have hz3 := hz2.newBox [.string nm, .int .u64 val, .slice none 0 0].toArray 25
  generalize hVB : Wb.heap.size = VB at hz3
  replace hz2 := Lib.hid hz2
  replace hz3 := Lib.hid hz3
  clear hb hz1
  go_enter Try.func9, Try.ntmps9
  go_upto_region 1 with fail
  clear hWa hWb
  obtain ⟨hbB, -⟩ := hz2.out.box 1 rfl
  have y0 : Wb.cell? ⟨BB, 0, none⟩ = some (.string nm) := box_cell hbB 0
  have y1 : Wb.cell? ⟨BB, 1, none⟩ = some (.int .u64 val) := box_cell hbB 1
  clear hbB hz2
  go_upto_region 2 with fail
  clear y0 y1
  generalize (Wb.alloc (.cells [.string nm, .int .u64 val, .slice none 0 0].toArray 25)) = Wc at hz3 ⊢
  have hz4 : Hid (Zoo W Wc [rowT.rowC (.slice none 0 0) ((rows.take 0).map ltRow), boxT VB [.string nm, .int .u64 val, .slice none 0 0].toArray 25, boxT RB [.string ⟨#[]⟩, .int .u64 0, .slice none 0 0].toArray 25, boxT BB [.string nm, .int .u64 val, .int .u64 nx, .int .u64 hi, .slice a rows.length c].toArray 28]) := Lib.hid (hz3.out.newRowC (R := rowT) (Below.refl _ _) (.inl (RT.Own.nil rowT Wc)) (fun g hg => by cases hg))
  clear hz3
  go_wp2_with fail
  go_loopw [4] (fun v4 wr => ∃ (q : Nat) (vr : Value), v4 = .int .i64 q ∧ q ≤ rows.length ∧ Hid (Zoo W wr [rowT.rowC vr ((rows.take q).map ltRow), boxT VB [.string nm, .int .u64 val, vr].toArray 25, boxT RB [.string ⟨#[]⟩, .int .u64 0, .slice none 0 0].toArray 25, boxT BB [.string nm, .int .u64 val, .int .u64 nx, .int .u64 hi, .slice a rows.length c].toArray 28])) (fun v4 _ => rows.length - (intOf v4).toNat)
  case atStart => exact ⟨0, _, rfl, Nat.zero_le _, hz4⟩
  case round =>
    clear hz4
    obtain ⟨q, vr, rfl, hq, hz⟩ := hrel
    obtain ⟨hbB, -⟩ := hz.out.box 3 rfl
    have y4 : wr.cell? ⟨BB, 4, none⟩ = some (.slice a rows.length c) := box_cell hbB 4
    by_cases hlt : q < rows.length
    · obtain ⟨b, o, cap', hv, hbB', -⟩ := (hb0.out W (Below.refl _ _)).at_ hlt
      injection hv with q1 q2 q3
      subst q1 q3
      have hcel : ∀ W', Below W.heap.size W W' → W'.cell? ⟨b, o + q * 5, none⟩ = some (.int .u64 rows[q].x.uid) ∧ W'.cell? ⟨b, o + q * 5 + 2, none⟩ = some (.int .u64 rows[q].x.mod) := fun W' hB => by
        obtain ⟨b', o', cap'', hv, -, r0, -, r2, -⟩ := (hb0.out W' hB).at_ hlt
        injection hv with q1 q2 q3
        injection q1 with q1
        injection q1 with q1 q4
        subst q1 q4
        exact ⟨r0, r2⟩
      have hnx : Hid ((rows.take (q + 1)).map ltRow = (rows.take q).map ltRow ++ [(rows[q].x.uid, rows[q].x.mod)]) := Lib.hid (by rw [List.take_succ_eq_append_getElem hlt, List.map_append]; rfl)
      have hln : Hid (((rows.take q).map ltRow).length + 1 ≤ 1000000) := Lib.hid (by rw [List.length_map, List.length_take]; omega)
      obtain ⟨a3, c3, hv3⟩ := (hz.out.ownC 0 rfl).len
      generalize hcu : (rows.take q).map ltRow = cu at hz hnx hln hv3
      obtain ⟨n3, hn3⟩ : ∃ n3, cu.length = n3 := ⟨_, rfl⟩
      rw [hn3] at hv3
      subst hv3
      obtain ⟨uid, huid⟩ : ∃ uid, rows[q].x.uid = uid := ⟨_, rfl⟩
      obtain ⟨md, hmd⟩ : ∃ md, rows[q].x.mod = md := ⟨_, rfl⟩
      rw [huid, hmd] at hcel hnx
      have hl1 : (q : Int) < (rows.length : Int) := by omega
      have hq0 : (0 : Int) ≤ (q : Int) := by omega
      replace hcu := Lib.hid hcu
      replace hn3 := Lib.hid hn3
      replace hcel := Lib.hid hcel
      clear huid hmd hbB' hbB
      go_upto_region 5 with fail
      have hzd := hz.out.drew
      obtain ⟨hbV, -⟩ := hzd.box 1 rfl
      obtain ⟨hbB, -⟩ := hzd.box 3 rfl
      have x2 : wr.drew.cell? ⟨VB, 2, none⟩ = some (.slice a3 n3 c3) := box_cell hbV 2
      have y4' : wr.drew.cell? ⟨BB, 4, none⟩ = some (.slice (some ⟨b, o, none⟩) rows.length c) := box_cell hbB 4
      obtain ⟨r0, r2⟩ := hcel.out _ hzd.bel
      clear y4
      refine wp_region_hd (fun w' => w'.cell? ⟨VB, 2, none⟩ = some (.slice a3 n3 c3) ∧ w'.cell? ⟨BB, 4, none⟩ = some (.slice (some ⟨b, o, none⟩) rows.length c) ∧ w'.cell? ⟨b, o + q * 5, none⟩ = some (.int .u64 uid) ∧ w'.cell? ⟨b, o + q * 5 + 2, none⟩ = some (.int .u64 md)) 17 2 (by kernel_rfl) rfl ⟨by kernel_rfl, by kernel_rfl, by kernel_rfl, by decide⟩ ⟨x2, y4', r0, r2⟩ (fun hok hS0 => ?_)
      generalize wr.drew = wd at *
      refine Hd.take (i := 0) (v := ?tv54) hok rfl (by kernel_rfl) (fun _ _ _ h => h) (Or.inl ⟨by rfl, ?ty54⟩) (by assumption) ?tr54
      case ty54 => (intro w hSw; (try dsimp only at hSw); go_simp; (try with_reducible rfl))
      try simp only [List.getElem_toArray, List.getElem_cons_succ, List.getElem_cons_zero, Act.put, List.setIfInBounds_toArray, List.set_cons_zero, List.set_cons_succ]
      refine Hd.take (i := 1) (v := ?tv55) hok rfl (by kernel_rfl) (fun _ _ _ h => h) (Or.inl ⟨by rfl, ?ty55⟩) (by assumption) ?tr55
      case ty55 => (intro w hSw; (try dsimp only at hSw); go_simp; (try with_reducible rfl))
      try simp only [List.getElem_toArray, List.getElem_cons_succ, List.getElem_cons_zero, Act.put, List.setIfInBounds_toArray, List.set_cons_zero, List.set_cons_succ]
      refine Hd.take (i := 2) (v := ?tv56) hok rfl (by kernel_rfl) (fun _ _ _ h => h) (Or.inl ⟨by rfl, ?ty56⟩) (by assumption) ?tr56
      case ty56 => (intro w hSw; (try dsimp only at hSw); go_simp; (try with_reducible rfl))
      try simp only [List.getElem_toArray, List.getElem_cons_succ, List.getElem_cons_zero, Act.put, List.setIfInBounds_toArray, List.set_cons_zero, List.set_cons_succ]
      refine Hd.take (i := 3) (v := ?tv57) hok rfl (by kernel_rfl) (fun _ _ _ h => h) (Or.inl ⟨by rfl, ?ty57⟩) (by assumption) ?tr57
      case ty57 => (intro w hSw; (try dsimp only at hSw); go_simp; (try with_reducible rfl))
      try simp only [List.getElem_toArray, List.getElem_cons_succ, List.getElem_cons_zero, Act.put, List.setIfInBounds_toArray, List.set_cons_zero, List.set_cons_succ]
      refine Hd.take (i := 4) (v := ?tv58) hok rfl (by kernel_rfl) (fun _ _ _ h => h) (Or.inl ⟨by rfl, ?ty58⟩) (by assumption) ?tr58
      case ty58 => (intro w hSw; (try dsimp only at hSw); go_simp; (try with_reducible rfl))
      try simp only [List.getElem_toArray, List.getElem_cons_succ, List.getElem_cons_zero, Act.put, List.setIfInBounds_toArray, List.set_cons_zero, List.set_cons_succ]
      refine Hd.take (i := 5) (v := ?tv59) hok rfl (by kernel_rfl) (fun _ _ _ h => h) (Or.inl ⟨by rfl, ?ty59⟩) (by assumption) ?tr59
      case ty59 => (intro w hSw; (try dsimp only at hSw); go_simp; (try with_reducible rfl))
      try simp only [List.getElem_toArray, List.getElem_cons_succ, List.getElem_cons_zero, Act.put, List.setIfInBounds_toArray, List.set_cons_zero, List.set_cons_succ]
      refine Hd.take (i := 6) (v := ?tv60) hok rfl (by kernel_rfl) (fun _ _ _ h => h) (Or.inl ⟨by rfl, ?ty60⟩) (by assumption) ?tr60
      case ty60 => (intro w hSw; (try dsimp only at hSw); go_simp; (try with_reducible rfl))
      try simp only [List.getElem_toArray, List.getElem_cons_succ, List.getElem_cons_zero, Act.put, List.setIfInBounds_toArray, List.set_cons_zero, List.set_cons_succ]
      refine Hd.take (i := 7) (v := ?tv61) hok rfl (by kernel_rfl) (fun _ _ _ h => h) (Or.inl ⟨by rfl, ?ty61⟩) (by assumption) ?tr61
      case ty61 => (intro w hSw; (try dsimp only at hSw); go_simp; (try with_reducible rfl))
      try simp only [List.getElem_toArray, List.getElem_cons_succ, List.getElem_cons_zero, Act.put, List.setIfInBounds_toArray, List.set_cons_zero, List.set_cons_succ]
      refine Hd.take (i := 8) (v := ?tv62) hok rfl (by kernel_rfl) (fun _ _ _ h => h) (Or.inl ⟨by rfl, ?ty62⟩) (by assumption) ?tr62
      case ty62 => (intro w hSw; (try dsimp only at hSw); go_simp; (try with_reducible rfl))
      try simp only [List.getElem_toArray, List.getElem_cons_succ, List.getElem_cons_zero, Act.put, List.setIfInBounds_toArray, List.set_cons_zero, List.set_cons_succ]
      refine Hd.take (i := 9) (v := ?tv63) hok rfl (by kernel_rfl) (fun _ _ _ h => h) (Or.inl ⟨by rfl, ?ty63⟩) (by assumption) ?tr63
      case ty63 => (intro w hSw; (try dsimp only at hSw); go_simp; (try with_reducible rfl))
      try simp only [List.getElem_toArray, List.getElem_cons_succ, List.getElem_cons_zero, Act.put, List.setIfInBounds_toArray, List.set_cons_zero, List.set_cons_succ]
      refine Hd.take (i := 10) (v := ?tv64) hok rfl (by kernel_rfl) (fun _ _ _ h => h) (Or.inl ⟨by rfl, ?ty64⟩) (by assumption) ?tr64
      case ty64 => (intro w hSw; (try dsimp only at hSw); go_simp; (try with_reducible rfl))
      try simp only [List.getElem_toArray, List.getElem_cons_succ, List.getElem_cons_zero, Act.put, List.setIfInBounds_toArray, List.set_cons_zero, List.set_cons_succ]
      refine Hd.take (i := 11) (v := ?tv65) hok rfl (by kernel_rfl) (fun _ _ _ h => h) (Or.inl ⟨by rfl, ?ty65⟩) (by assumption) ?tr65
      case ty65 => (intro w hSw; (try dsimp only at hSw); go_simp; (try with_reducible rfl))
      try simp only [List.getElem_toArray, List.getElem_cons_succ, List.getElem_cons_zero, Act.put, List.setIfInBounds_toArray, List.set_cons_zero, List.set_cons_succ]
      refine Hd.take (i := 12) (v := ?tv66) hok rfl (by kernel_rfl) (fun _ _ _ h => h) (Or.inl ⟨by rfl, ?ty66⟩) (by assumption) ?tr66
      case ty66 => (intro w hSw; (try dsimp only at hSw); go_simp; (try with_reducible rfl))
      try simp only [List.getElem_toArray, List.getElem_cons_succ, List.getElem_cons_zero, Act.put, List.setIfInBounds_toArray, List.set_cons_zero, List.set_cons_succ]
      refine Hd.take (i := 13) (v := ?tv67) hok rfl (by kernel_rfl) (fun _ _ _ h => h) (Or.inl ⟨by rfl, ?ty67⟩) (by assumption) ?tr67
      case ty67 => (intro w hSw; (try dsimp only at hSw); go_simp; (try with_reducible rfl))
      try simp only [List.getElem_toArray, List.getElem_cons_succ, List.getElem_cons_zero, Act.put, List.setIfInBounds_toArray, List.set_cons_zero, List.set_cons_succ]
      refine Hd.take (i := 14) (v := ?tv68) hok rfl (by kernel_rfl) (fun _ _ _ h => h) (Or.inl ⟨by rfl, ?ty68⟩) (by assumption) ?tr68
      case ty68 => (intro w hSw; (try dsimp only at hSw); go_simp; (try with_reducible rfl))
      try simp only [List.getElem_toArray, List.getElem_cons_succ, List.getElem_cons_zero, Act.put, List.setIfInBounds_toArray, List.set_cons_zero, List.set_cons_succ]
      refine Hd.one (i := 15) rfl (by kernel_rfl) (fun K hK => ?_)
      go_simp
      have hza := hzd.alloc (.cells (rngCells (uid, md)).toArray 63)
      have hrd := (RT.Own.one rowT wd (uid, md) wd.heap.size rfl).rd
      obtain ⟨hbV2, -⟩ := hza.box 1 rfl
      obtain ⟨hbB2, -⟩ := hza.box 3 rfl
      refine hK _ _ ⟨box_cell hbV2 2, box_cell hbB2 4, hcel.out _ hza.bel⟩ ?_
      clear hK K
      try simp only [List.getElem_toArray, List.getElem_cons_succ, List.getElem_cons_zero, Act.put, List.setIfInBounds_toArray, List.set_cons_zero, List.set_cons_succ]
      refine Hd.one (i := 16) rfl (by kernel_rfl) (fun K hK => ?_)
      refine RT.step_appendC rowT rfl (.tmp 18) (.tmp 32) rfl (.slice a3 n3 c3) _ cu [(uid, md)] rfl rfl (hza.ownC 0 rfl) hrd (by simpa using hln.out) ?_
      intro v6 w6 ho6 hg6 hat6
      rw [← hnx.out] at ho6
      have hz6 := hza.appC 0 rfl ho6 hg6 (fun g hg => (hat6 g hg).imp_right (fun h => by simpa using h))
      obtain ⟨hbV6, -⟩ := hz6.box 1 rfl
      obtain ⟨hbB6, -⟩ := hz6.box 3 rfl
      have x2' : w6.cell? ⟨VB, 2, none⟩ = some (.slice a3 n3 c3) := box_cell hbV6 2
      have f2 : w6.frozen? ⟨VB, 2, none⟩ = false := box_free hbV6 2
      refine hK _ _ ⟨x2', box_cell hbB6 4, hcel.out _ hz6.bel⟩ ?_
      clear hK K
      try simp only [List.getElem_toArray, List.getElem_cons_succ, List.getElem_cons_zero, Act.put, List.setIfInBounds_toArray, List.set_cons_zero, List.set_cons_succ]
      refine Hd.done (by kernel_rfl) ?_
      simp only [List.drop_succ_cons, List.drop_zero]
      have hz7 := Lib.hid (hz6.setBox (C := [_, _, _]) 1 rfl 2 v6)
      obtain ⟨a6, c6, hv6⟩ := ho6.len
      generalize ((rows.take (q + 1)).map ltRow).length = n6 at hv6
      subst hv6
      clear ho6 hg6 hat6 hza hrd hz6 hbV hbB hbV2 hbB2 hbV6 hbB6 hok hS0 x2 y4' r0 r2 hzd hnx hcu hln hz hn3 hcel
      go_wp2_with fail
      go_roundw
      case rel => exact ⟨q + 1, _, by go_num, by omega, hz7⟩
      case measure => simp [intOf] <;> omega
    · obtain rfl : q = rows.length := by omega
      rw [List.take_length] at hz
      obtain ⟨a3, c3, hv3⟩ := (hz.out.ownC 0 rfl).len
      generalize (rows.map ltRow).length = n3 at hv3
      subst hv3
      obtain ⟨hbV, -⟩ := hz.out.box 1 rfl
      have x0 : wr.cell? ⟨VB, 0, none⟩ = some (.string nm) := box_cell hbV 0
      have x1 : wr.cell? ⟨VB, 1, none⟩ = some (.int .u64 val) := box_cell hbV 1
      have x2 : wr.cell? ⟨VB, 2, none⟩ = some (.slice a3 n3 c3) := box_cell hbV 2
      obtain ⟨hbR, -⟩ := hz.out.box 2 rfl
      have z0 : wr.cell? ⟨RB, 0, none⟩ = some (.string ⟨#[]⟩) := box_cell hbR 0
      have z1 : wr.cell? ⟨RB, 1, none⟩ = some (.int .u64 0) := box_cell hbR 1
      have z2 : wr.cell? ⟨RB, 2, none⟩ = some (.slice none 0 0) := box_cell hbR 2
      have f0 := box_free hbR 0
      have f1 := box_free hbR 1
      have f2 := box_free hbR 2
      have hzF := Lib.hid (((hz.out.setBox (C := [_, _, _]) 2 rfl 0 (.string nm)).setBox (C := [_, _, _]) 2 rfl 1 (.int .u64 val)).setBox (C := [_, _, _]) 2 rfl 2 (.slice a3 n3 c3))
      obtain ⟨hbF, -⟩ := hzF.out.box 2 rfl
      replace hbF := Lib.hid hbF
      clear hbV hbR hz hbB
      go_wp2_with fail
      refine bodyPost_ret (results_cell_row rfl _ _ _ 25 _ (0, 0) _ rfl hbF.out Try.underlying25 rfl rfl) rfl ?_
      exact ⟨.slice a3 n3 c3, rfl, Lib.hid (hzF.out.sub (List.Sublist.cons_cons _ (List.nil_sublist _)))⟩
theorem tellL_len (l : List (Nat × Nat)) (u m : Nat) : (tellL l u m).length = l.length := by
  unfold tellL
  split
  · rfl
  · rw [List.length_set]
theorem tellL_step {l : List (Nat × Nat)} {u m q : Nat} (hq : q < l.length) : (tellL l u m).take (q + 1) = (tellL l u m).take q ++ [(l[q].1, if q + 1 = seqN l u then m else l[q].2)] := by
  have hq2 : q < (tellL l u m).length := by rw [tellL_len]; exact hq
  have hs := seqN_le l u
  have key : (tellL l u m)[q]? = some (l[q].1, if q + 1 = seqN l u then m else l[q].2) := by
    unfold tellL
    generalize seqN l u = n at hs
    cases n with
    | zero => rw [if_neg (by omega)]; exact List.getElem?_eq_getElem hq
    | succ n =>
      show (l.set n ((l.getD n (0, 0)).1, m))[q]? = _
      rw [List.getElem?_set]
      by_cases e : n = q
      · subst e
        rw [if_pos rfl, if_pos hq, if_pos rfl]
        simp [List.getD, hq]
      · rw [if_neg e, if_neg (by omega)]; exact List.getElem?_eq_getElem hq
  rw [List.getElem?_eq_getElem hq2] at key
  rw [List.take_succ_eq_append_getElem hq2, Option.some.inj key]
set_option maxRecDepth 100000 in
set_option maxHeartbeats 16000000 in
theorem refToldV_any (s : ByteArray) (val : Nat) (l : List (Nat × Nat)) (v : Value) (uid mod : Nat) (W : World) (hl : l.length ≤ 100000) (hk : RangesIn W W.heap.size v l) :
    Calls Try.prog 13 #[.agg #[.string s, .int .u64 val, v], .int .u64 uid, .int .u64 mod] W (ViewRet W s val (tellL l uid mod)) := by
  have hk0 := Lib.hid hk
  have hsq := Lib.hid (fun (W' : World) (h : Below W.heap.size W W') => refSeq_any s val l v uid W' (by omega) (hk.on h))
  obtain ⟨av, cv, hv, -⟩ := hk
  subst hv
  have hz1 := (Zoo.nil W).newBox [.string s, .int .u64 val, .slice av l.length cv].toArray 25
  generalize hVB : W.heap.size = VB at hz1
  generalize hWa : (W.alloc (.cells [.string s, .int .u64 val, .slice av l.length cv].toArray 25)) = Wa at hz1
  have hz2 := hz1.newBox [.string ⟨#[]⟩, .int .u64 0, .slice none 0 0].toArray 25
  generalize hRB : Wa.heap.size = RB at hz2
  generalize hWb : (Wa.alloc (.cells [.string ⟨#[]⟩, .int .u64 0, .slice none 0 0].toArray 25)) = Wb at hz2
  replace hz2 := Lib.hid hz2
  clear hz1
  go_enter Try.func13, Try.ntmps13
  go_upto_region 1 with fail
  clear hWa hWb
  obtain ⟨hbV, -⟩ := hz2.out.box 1 rfl
  have x0 : Wb.cell? ⟨VB, 0, none⟩ = some (.string s) := box_cell hbV 0
  have x1 : Wb.cell? ⟨VB, 1, none⟩ = some (.int .u64 val) := box_cell hbV 1
  have x2 : Wb.cell? ⟨VB, 2, none⟩ = some (.slice av l.length cv) := box_cell hbV 2
  have hs1 := Lib.hid (hsq.out Wb hz2.out.bel)
  clear hbV hsq
  obtain ⟨sn, hsn⟩ : ∃ sn, seqN l uid = sn := ⟨_, rfl⟩
  rw [hsn] at hs1
  replace hsn := Lib.hid hsn
  have hsl := seqN_le l uid
  rw [hsn.out] at hsl
  go_wp2_with fail
  refine hs1.out.mono ?_
  rintro e w3 ⟨rfl, hb3⟩
  have hz3 : Hid (Zoo W w3 [rowT.rowC (.slice none 0 0) ((tellL l uid mod).take 0), boxT RB [.string ⟨#[]⟩, .int .u64 0, .slice none 0 0].toArray 25, boxT VB [.string s, .int .u64 val, .slice av l.length cv].toArray 25]) := Lib.hid ((hz2.out.below hb3.out).newRowC (R := rowT) (Below.refl _ _) (.inl (RT.Own.nil rowT w3)) (fun g hg => by cases hg))
  clear hs1 hb3 hz2 x0 x1 x2
  go_wp2_with fail
  go_loopw [8, 9] (fun v8 v9 wr => ∃ q : Nat, v9 = .int .i64 q ∧ q ≤ l.length ∧ Hid (Zoo W wr [rowT.rowC v8 ((tellL l uid mod).take q), boxT RB [.string ⟨#[]⟩, .int .u64 0, .slice none 0 0].toArray 25, boxT VB [.string s, .int .u64 val, .slice av l.length cv].toArray 25])) (fun _ v9 _ => l.length - (intOf v9).toNat)
  case atStart => exact ⟨0, rfl, Nat.zero_le _, hz3⟩
  case round =>
    clear hz3
    obtain ⟨q, rfl, hq, hz⟩ := hrel
    obtain ⟨hbV, -⟩ := hz.out.box 2 rfl
    have x2 : wr.cell? ⟨VB, 2, none⟩ = some (.slice av l.length cv) := box_cell hbV 2
    by_cases hlt : q < l.length
    · obtain ⟨b, o, cap', hv, hbB, hcells⟩ := rowAt (hk0.out.later hz.out.bel) hlt
      injection hv with q1 q2 q3
      subst q1 q3
      obtain ⟨r0, r1⟩ := hcells q hlt
      have hnx := Lib.hid (tellL_step (u := uid) (m := mod) hlt)
      have hln : Hid (((tellL l uid mod).take q).length + 1 ≤ 1000000) := Lib.hid (by rw [List.length_take]; omega)
      obtain ⟨x, hx⟩ : ∃ x, l[q] = x := ⟨_, rfl⟩
      rw [hx, hsn.out] at hnx
      rw [hx] at r0 r1
      generalize hcu : (tellL l uid mod).take q = cu at hz hnx hln
      have hl1 : (q : Int) < (l.length : Int) := by omega
      have hq0 : (0 : Int) ≤ (q : Int) := by omega
      have hw1 : IntKind.i64.wrap ((q : Int) + 1) = (q : Int) + 1 := by rw [IntKind.wrap_i64]; omega
      replace hcu := Lib.hid hcu
      have hnb := hz.out.newBox [.int .u64 x.1, .int .u64 x.2].toArray 63
      generalize hLB : wr.heap.size = LB at hnb
      generalize hWd : (wr.alloc (.cells [.int .u64 x.1, .int .u64 x.2].toArray 63)) = wd at hnb
      replace hnb := Lib.hid hnb
      clear hx hbB hcells hz hbV
      go_upto_region 7 with fail
      clear hWd hLB r0 r1 x2
      go_upto_if 29 with fail
      go_cut [] (fun wx => Hid (Zoo W wx [boxT LB [.int .u64 x.1, .int .u64 ((if q + 1 = sn then mod else x.2 : Nat) : Int)].toArray 63, rowT.rowC u8 cu, boxT RB [.string ⟨#[]⟩, .int .u64 0, .slice none 0 0].toArray 25, boxT VB [.string s, .int .u64 val, .slice (some ⟨b, o, none⟩) l.length cv].toArray 25]))
      case first =>
        by_cases e : q + 1 = sn
        · have d1 : ((q : Int) + 1 == (sn : Int)) = true := by rw [beq_iff_eq]; omega
          have d2 : (q : Int) + 1 = (sn : Int) := by omega
          obtain ⟨hbL, -⟩ := hnb.out.box 0 rfl
          have s1 : wd.cell? ⟨LB, 1, none⟩ = some (.int .u64 x.2) := box_cell hbL 1
          have f1 : wd.frozen? ⟨LB, 1, none⟩ = false := box_free hbL 1
          have hn2 := Lib.hid (hnb.out.setBox (C := [_, _]) 0 rfl 1 (.int .u64 mod))
          have hrel : Hid ((if q + 1 = sn then mod else x.2) = mod) := Lib.hid (if_pos e)
          clear hbL hnb e
          go_wp2_with fail
          go_meet
          case rel => rw [hrel.out]; exact hn2
        · have d1 : ((q : Int) + 1 == (sn : Int)) = false := by rw [beq_eq_false_iff_ne]; omega
          have d2 : ¬ (q : Int) + 1 = (sn : Int) := by omega
          have hrel : Hid ((if q + 1 = sn then mod else x.2) = x.2) := Lib.hid (if_neg e)
          clear e
          go_wp2_with fail
          go_meet
          case rel => rw [hrel.out]; exact hnb
      case rest =>
      replace hnb := hcut
      clear hcut
      generalize wc = wd at *
      obtain ⟨md, hmd⟩ : ∃ md, (if q + 1 = sn then mod else x.2) = md := ⟨_, rfl⟩
      rw [hmd] at hnb hnx
      obtain ⟨hbL, -⟩ := hnb.out.box 0 rfl
      have s0 : wd.cell? ⟨LB, 0, none⟩ = some (.int .u64 x.1) := box_cell hbL 0
      have s1 : wd.cell? ⟨LB, 1, none⟩ = some (.int .u64 md) := box_cell hbL 1
      have hza := Lib.hid (hnb.out.alloc (.cells (rngCells (x.1, md)).toArray 63))
      have hrd := Lib.hid (RT.Own.one rowT wd (x.1, md) wd.heap.size rfl).rd
      clear hnb hbL hmd
      go_wp2_with (at_builtin; refine RT.wpList_appendC rowT rfl (.tmp 32) (.tmp 34) rfl u8 _ cu [(x.1, md)] rfl rfl (hza.out.ownC 1 rfl) hrd.out (by simpa using hln.out) ?_)
      intro v6 w6 ho6 hg6 hat6
      rw [← hnx.out] at ho6
      have hz7 := Lib.hid ((hza.out.appC 1 rfl ho6 hg6 (fun g hg => (hat6 g hg).imp_right (fun h => by simpa using h))).tail)
      clear ho6 hg6 hat6 hza hrd s0 s1 hnx hcu hln
      go_wp2_with fail
      go_roundw
      case rel => exact ⟨q + 1, by go_num, by omega, hz7⟩
      case measure => simp [intOf] <;> omega
    · obtain rfl : q = l.length := by omega
      rw [List.take_of_length_le (Nat.le_of_eq (tellL_len l uid mod))] at hz
      obtain ⟨a3, c3, hv3⟩ := (hz.out.ownC 0 rfl).len
      rw [tellL_len] at hv3
      obtain ⟨n3, hn3⟩ : ∃ n3, l.length = n3 := ⟨_, rfl⟩
      subst hv3
      have x0 : wr.cell? ⟨VB, 0, none⟩ = some (.string s) := box_cell hbV 0
      have x1 : wr.cell? ⟨VB, 1, none⟩ = some (.int .u64 val) := box_cell hbV 1
      have g2 := box_free hbV 2
      obtain ⟨hbR, -⟩ := hz.out.box 1 rfl
      have z0 : wr.cell? ⟨RB, 0, none⟩ = some (.string ⟨#[]⟩) := box_cell hbR 0
      have z1 : wr.cell? ⟨RB, 1, none⟩ = some (.int .u64 0) := box_cell hbR 1
      have z2 : wr.cell? ⟨RB, 2, none⟩ = some (.slice none 0 0) := box_cell hbR 2
      have f0 := box_free hbR 0
      have f1 := box_free hbR 1
      have f2 := box_free hbR 2
      have hzV := Lib.hid (hz.out.setBox (C := [_, _, _]) 2 rfl 2 (.slice a3 l.length c3))
      clear hn3
      go_upto_region 11 with fail
      generalize (wr.setCell ⟨VB, 2, none⟩ (.slice a3 l.length c3)) = w9 at hzV ⊢
      clear x0 x1 x2 g2 hbV hbR z0 z1 z2 f0 f1 f2 hz
      obtain ⟨hbV, -⟩ := hzV.out.box 2 rfl
      have x0 : w9.cell? ⟨VB, 0, none⟩ = some (.string s) := box_cell hbV 0
      have x1 : w9.cell? ⟨VB, 1, none⟩ = some (.int .u64 val) := box_cell hbV 1
      have x2 : w9.cell? ⟨VB, 2, none⟩ = some (.slice a3 l.length c3) := box_cell hbV 2
      obtain ⟨hbR, -⟩ := hzV.out.box 1 rfl
      have z0 : w9.cell? ⟨RB, 0, none⟩ = some (.string ⟨#[]⟩) := box_cell hbR 0
      have z1 : w9.cell? ⟨RB, 1, none⟩ = some (.int .u64 0) := box_cell hbR 1
      have z2 : w9.cell? ⟨RB, 2, none⟩ = some (.slice none 0 0) := box_cell hbR 2
      have f0 := box_free hbR 0
      have f1 := box_free hbR 1
      have f2 := box_free hbR 2
      have hzF := Lib.hid (((hzV.out.setBox (C := [_, _, _]) 1 rfl 0 (.string s)).setBox (C := [_, _, _]) 1 rfl 1 (.int .u64 val)).setBox (C := [_, _, _]) 1 rfl 2 (.slice a3 l.length c3))
      obtain ⟨hbF, -⟩ := hzF.out.box 1 rfl
      replace hbF := Lib.hid hbF
      clear hbV hbR hzV
      go_wp2_with fail
      refine bodyPost_ret (results_cell_row rfl _ _ _ 25 _ (0, 0) _ rfl hbF.out Try.underlying25 rfl rfl) rfl ?_
      exact ⟨.slice a3 l.length c3, rfl, Lib.hid (hzF.out.sub (List.Sublist.cons_cons _ (List.nil_sublist _)))⟩
end Go.Proofs.Ytcnebfmlelcliaa
