/- What every right program answers: alive, walked. (written by tools/gen_VsI.py) What the laws of views behind operations share: a cell set beside a stay, a state's stay, a mailbox's facts. nothing of its own nothing of its own nothing of its own SeqsetTurned, SeqsetHolds: walked, over what 'alive' answers. maps.Keys as an iterator over a map's keys, numbers: walked. slices.Collect, slices.Sorted of a map's keys: walked, over what slices.Sort does. A row of numbers that is written in place; cmp.Less; insertion sort: walked. -/
import Derived.Test.YtcnebfmlelcliaaB11
import Derived.Test.YtcnebfmlelcliaaB03
import Derived.Test.YtcnebfmlelcliaaB09
import Derived.Test.YtcnebfmlelcliaaB08
import Derived.Deep.RegionWith
import Derived.Deep.RegionLaw
import Derived.RangeFuncNested
import Derived.RangeFuncBound
import Derived.RangeFuncCalls
import Derived.RangeFuncLeaves
import Derived.RangeFuncFrom
import Derived.Shelf.Abstract
import Derived.Shelf.RegionOpen
import Derived.WalkKit
import Derived.OwnWalkIn
import Derived.TacticsInMore
import Derived.LoopNIn
import Derived.LoopIn
import Derived.Sort.MapsRangeIn
import Derived.Maps.OwnSet
import Derived.Maps.OwnOps
import Derived.Maps.AppendAt
import Derived.OpenShut
namespace Go.Proofs.Ytcnebfmlelcliaa
set_option linter.unusedSimpArgs false
open Go.RowKit
attribute [local go_sem ↓] Go.wp_at_zero Go.wp_at_succ

theorem fore_perm {α : Type} : ∀ (L : List α) (i : Nat) (hi : i < L.length), L.Perm (L[i] :: L.eraseIdx i)
  | _ :: _, 0, _ => List.Perm.refl _
  | x :: L, i + 1, hi => ((fore_perm L i (by simpa using hi)).cons x).trans (List.Perm.swap _ _ _)
theorem Zoo.fore {W0 W : World} {L : List Th} {a : Th} (h : Zoo W0 W L) (i : Nat) (hi : L[i]? = some a) : Zoo W0 W (a :: L.eraseIdx i) := by
  obtain ⟨hl, rfl⟩ := List.getElem?_eq_some_iff.1 hi
  exact h.perm (fore_perm L i hl)
theorem rd_new (w : World) (us : List Nat) (t : TypeId) : Rd (w.alloc (.cells (us.map encU).toArray t)) (.slice (some ⟨w.heap.size, 0, none⟩) us.length us.length) us.length (us.map encU) := by
  refine ⟨_, _, rfl, .inr ⟨w.heap.size, 0, rfl, by simp, Nat.le_refl _, fun j u hu => ?_⟩⟩
  rw [Nat.zero_add, cell_at (heap_alloc_new w _) j, List.getElem?_toArray]
  exact hu
def alR : List (Nat × Nat) := [(1, 1), (2, 1), (3, 1)]
def alS : List (Nat × Nat) := [(1, 1), (3, 1), (4, 1)]
theorem bareL_fl (us : List Nat) : ∀ y ∈ bareL us, y.x.flags.length ≤ 100000 := fun y hy => by
  obtain ⟨u, -, rfl⟩ := List.mem_map.1 hy
  exact Nat.zero_le _
theorem al_open : (bareL [1, 2, 3]).map ltRow = alR := rfl
theorem al_sync : syncL alR ((bareL [1, 3, 4]).map ltRow) true = alS := by decide
theorem al_tell : tellR alR ((bareL [1, 3, 4]).map ltRow) true = [(9, 2), (8, 3)] := by decide
theorem say_two {rps : List Rp} {a b : Nat × Nat} (h : rps.map Rp.say = [a, b]) : ∃ x y : Rp, rps = [x, y] ∧ x.kind = a.1 ∧ x.n = a.2 ∧ y.kind = b.1 ∧ y.n = b.2 := by
  match rps, h with
  | [x, y], h =>
    simp only [List.map_cons, List.map_nil, List.cons.injEq] at h
    obtain ⟨h1, h2, -⟩ := h
    exact ⟨x, y, rfl, congrArg Prod.fst h1, congrArg Prod.snd h1, congrArg Prod.fst h2, congrArg Prod.snd h2⟩
set_option maxRecDepth 100000 in
set_option maxHeartbeats 16000000 in
theorem aliveV_any (W : World) : Calls Try.prog 5 #[] W fun e w' => e = .returned (.bool true) ∧ Hid (Below W.heap.size W w') := by
  have hz0 := Lib.hid ((Zoo.nil W).newBox [.int .u64 1, .int .u64 2, .int .u64 3].toArray 22)
  have hbx := Lib.hid (box_any_vw [1, 2, 3] (.slice (some ⟨W.heap.size, 0, none⟩) 3 3) _ (by decide) (rd_new W [1, 2, 3] 22))
  go_enter Try.func5, Try.ntmps5
  go_wp2_with fail
  refine hbx.out.mono ?_
  rintro e w2 ⟨a2, c2, rfl, hz2⟩
  have hz3 := Lib.hid (hz0.out.join hz2.out)
  have hop := Lib.hid (openV_any ⟨bareS, 2, 9, 9, bareL [1, 2, 3], a2, c2⟩ w2 (by show 3 ≤ 100000; decide) (bareL_in (hz3.out.own 0 rfl)))
  dsimp only at hop
  rw [al_open] at hop
  clear hz0 hz2 hbx
  go_wp2_with fail
  refine hop.out.mono ?_
  rintro e w3 ⟨vr, rfl, hz4⟩
  have hz5 : Hid (Zoo W w3 [rowT.rowC vr alR]) := Lib.hid ((hz3.out.join hz4.out).sub (List.Sublist.cons_cons _ (List.nil_sublist _)))
  obtain ⟨ar, cr, hvr⟩ := (hz5.out.ownC 0 rfl).len
  have hvr : vr = .slice ar 3 cr := hvr
  subst hvr
  have hz6 := hz5.out.newBox [.string bareS, .int .u64 2, .slice ar 3 cr].toArray 25
  generalize hV1 : w3.heap.size = V1 at hz6
  replace hz6 := Lib.hid hz6
  clear hz3 hz4 hop hz5
  go_upto_region 2 with fail
  generalize (w3.alloc (.cells [.string bareS, .int .u64 2, .slice ar 3 cr].toArray 25)) = w4 at hz6 ⊢
  go_cut [2, 3] (fun v2 v3 wx => ∃ (V2 : Nat) (a6 : Option Addr) (c6 : Nat) (ao : Option Addr) (co : Nat) (rps : List Rp), v2 = .pointer (some ⟨V2, 0, none⟩) ∧ v3 = .slice ao 2 co ∧ Hid (rps.map Rp.say = [(9, 2), (8, 3)]) ∧ Hid (Zoo W wx [boxT V2 [.string bareS, .int .u64 2, .slice a6 3 c6].toArray 25, rpT.row (.slice ao 2 co) rps, rowT.rowC (.slice a6 3 c6) alS, boxT V1 [.string bareS, .int .u64 2, .slice ar 3 cr].toArray 25, rowT.rowC (.slice ar 3 cr) alR]))
  case first =>
    have hzd := hz6.out.drew
    obtain ⟨hbV, -⟩ := hzd.box 0 rfl
    refine wp_region_hd (fun w' => w'.cell? ⟨V1, 0, none⟩ = some (.string bareS) ∧ w'.cell? ⟨V1, 1, none⟩ = some (.int .u64 2) ∧ w'.cell? ⟨V1, 2, none⟩ = some (.slice ar 3 cr)) 9 1 (by kernel_rfl) rfl ⟨by kernel_rfl, by kernel_rfl, by kernel_rfl, by decide⟩ ⟨box_cell hbV 0, box_cell hbV 1, box_cell hbV 2⟩ (fun hok hS0 => ?_)
    generalize w4.drew = wd at *
    refine Hd.take (i := 0) (v := ?tv41) hok rfl (by kernel_rfl) (fun _ _ _ h => h) (Or.inl ⟨by rfl, ?ty41⟩) (by assumption) ?tr41
    case ty41 => (intro w hSw; (try dsimp only at hSw); go_simp; (try with_reducible rfl))
    try simp only [List.getElem_toArray, List.getElem_cons_succ, List.getElem_cons_zero, Act.put, List.setIfInBounds_toArray, List.set_cons_zero, List.set_cons_succ]
    clear hz6 hbV
    refine Hd.two (i := 1) (k := 7) rfl rfl (by kernel_rfl) (fun K hK => ?_) (fun K hK => ?_)
    · go_simp
      have z1 := Zoo.newBox hzd [.int .u64 1, .int .u64 3, .int .u64 4].toArray 22
      have rd1 : Rd _ (.slice (some ⟨wd.heap.size, 0, none⟩) 3 3) 3 ([1, 3, 4].map encU) := rd_new wd [1, 3, 4] 22
      change Rd (wd.alloc (.cells [.int .u64 1, .int .u64 3, .int .u64 4].toArray 22)) _ _ _ at rd1
      generalize wd.heap.size = n1 at z1 rd1 ⊢
      generalize (wd.alloc (.cells [.int .u64 1, .int .u64 3, .int .u64 4].toArray 22)) = w1_ at z1 rd1 ⊢
      obtain ⟨hbS, -⟩ := Zoo.box z1 1 rfl
      refine hK _ _ ⟨box_cell hbS 0, box_cell hbS 1, box_cell hbS 2⟩ ?_
      clear hK K hbS
      try simp only [List.getElem_toArray, List.getElem_cons_succ, List.getElem_cons_zero, Act.put, List.setIfInBounds_toArray, List.set_cons_zero, List.set_cons_succ]
      refine Hd.two (i := 2) (k := 7) rfl rfl (by kernel_rfl) (fun K hK => ?_) (fun K hK => ?_)
      · go_simp
        refine (box_any_vw [1, 3, 4] _ w1_ (by decide) rd1).mono ?_
        rintro e w2_ ⟨a5, c5, rfl, hz5⟩
        dsimp only
        have z2 := Zoo.join z1 hz5.out
        have li2 := bareL_in (z2.own 0 rfl)
        obtain ⟨hbS, -⟩ := Zoo.box z2 2 rfl
        refine hK _ _ ⟨box_cell hbS 0, box_cell hbS 1, box_cell hbS 2⟩ ?_
        clear hK K hbS
        try simp only [List.getElem_toArray, List.getElem_cons_succ, List.getElem_cons_zero, Act.put, List.setIfInBounds_toArray, List.set_cons_zero, List.set_cons_succ]
        refine Hd.two (i := 3) (k := 7) rfl rfl (by kernel_rfl) (fun K hK => ?_) (fun K hK => ?_)
        · go_simp
          refine (sync_any ⟨bareS, 2, 9, 9, bareL [1, 3, 4], a5, c5⟩ alR (.slice ar 3 cr) true false w2_ (by decide) (by show 3 ≤ 100000; decide) (Zoo.ownC z2 3 rfl).rd.ranges li2 (bareL_fl _)).mono ?_
          rintro e w3_ ⟨v6, vo, rps, rfl, hz6, hsay⟩
          dsimp only
          rw [al_sync] at hz6
          rw [al_tell] at hsay
          obtain ⟨a6, c6, hv6⟩ := (hz6.out.ownC 1 rfl).len
          have hv6 : v6 = .slice a6 3 c6 := hv6
          subst hv6
          obtain ⟨ao, co, hvo⟩ := (hz6.out.own 0 rfl).len
          have hrl : rps.length = 2 := by have := congrArg List.length hsay.out; simpa using this
          rw [hrl] at hvo
          subst hvo
          have z3 := Zoo.join z2 hz6.out
          obtain ⟨hbS, -⟩ := Zoo.box z3 4 rfl
          refine hK _ _ ⟨box_cell hbS 0, box_cell hbS 1, box_cell hbS 2⟩ ?_
          clear hK K hbS
          try simp only [List.getElem_toArray, List.getElem_cons_succ, List.getElem_cons_zero, Act.put, List.setIfInBounds_toArray, List.set_cons_zero, List.set_cons_succ]
          obtain ⟨hbS, -⟩ := Zoo.box z3 4 rfl
          have hSn : w3_.cell? ⟨V1, 0, none⟩ = some (.string bareS) ∧ w3_.cell? ⟨V1, 1, none⟩ = some (.int .u64 2) ∧ w3_.cell? ⟨V1, 2, none⟩ = some (.slice ar 3 cr) := ⟨box_cell hbS 0, box_cell hbS 1, box_cell hbS 2⟩
          clear hbS
          refine Hd.take (i := 4) (v := ?tv42) hok rfl (by kernel_rfl) (fun _ _ _ h => h) (Or.inl ⟨by rfl, ?ty42⟩) (by assumption) ?tr42
          case ty42 => (intro w hSw; (try dsimp only at hSw); go_simp; (try with_reducible rfl))
          try simp only [List.getElem_toArray, List.getElem_cons_succ, List.getElem_cons_zero, Act.put, List.setIfInBounds_toArray, List.set_cons_zero, List.set_cons_succ]
          refine Hd.take (i := 5) (v := ?tv43) hok rfl (by kernel_rfl) (fun _ _ _ h => h) (Or.inl ⟨by rfl, ?ty43⟩) (by assumption) ?tr43
          case ty43 => (intro w hSw; (try dsimp only at hSw); go_simp; (try with_reducible rfl))
          try simp only [List.getElem_toArray, List.getElem_cons_succ, List.getElem_cons_zero, Act.put, List.setIfInBounds_toArray, List.set_cons_zero, List.set_cons_succ]
          refine Hd.take (i := 6) (v := ?tv44) hok rfl (by kernel_rfl) (fun _ _ _ h => h) (Or.inl ⟨by rfl, ?ty44⟩) (by assumption) ?tr44
          case ty44 => (intro w hSw; (try dsimp only at hSw); go_simp; (try with_reducible rfl))
          try simp only [List.getElem_toArray, List.getElem_cons_succ, List.getElem_cons_zero, Act.put, List.setIfInBounds_toArray, List.set_cons_zero, List.set_cons_succ]
          clear hSn
          refine Hd.one (i := 7) rfl (by kernel_rfl) (fun K hK => ?_)
          go_simp
          have z4 := Zoo.newBox z3 [.string ⟨#[]⟩, .int .u64 0, .slice none 0 0].toArray 25
          have bl4 := (Below.refl w3_.heap.size w3_).alloc (Nat.le_refl _) (.cells [.string ⟨#[]⟩, .int .u64 0, .slice none 0 0].toArray 25)
          generalize hn4 : w3_.heap.size = n4 at z4
          generalize (w3_.alloc (.cells [.string ⟨#[]⟩, .int .u64 0, .slice none 0 0].toArray 25)) = w4_ at z4 bl4 ⊢
          obtain ⟨hbS, -⟩ := Zoo.box z4 5 rfl
          refine hK _ _ ⟨box_cell hbS 0, box_cell hbS 1, box_cell hbS 2⟩ ?_
          clear hK K hbS
          try simp only [List.getElem_toArray, List.getElem_cons_succ, List.getElem_cons_zero, Act.put, List.setIfInBounds_toArray, List.set_cons_zero, List.set_cons_succ]
          have zf := Lib.hid (Zoo.fore z4 0 rfl)
          obtain ⟨hbZ, -⟩ := zf.out.box 0 rfl
          have s0 := box_cell hbZ 0
          have s1 := box_cell hbZ 1
          have s2 := box_cell hbZ 2
          simp at s0 s1 s2
          have f0 := box_free hbZ 0
          have f1 := box_free hbZ 1
          have f2 := box_free hbZ 2
          have zg := Lib.hid (zf.out.fillBox (C := [.string ⟨#[]⟩, .int .u64 0, .slice none 0 0]) 0 rfl [.string bareS, .int .u64 2, .slice a6 3 c6] rfl)
          simp only [World.setCells, Nat.zero_add] at zg
          refine Hd.one (i := 8) rfl (by kernel_rfl) (fun K hK => ?_)
          go_simp
          obtain ⟨hbS, -⟩ := Zoo.box zg.out 5 rfl
          refine hK _ _ ⟨box_cell hbS 0, box_cell hbS 1, box_cell hbS 2⟩ ?_
          clear hK K hbS
          try simp only [List.getElem_toArray, List.getElem_cons_succ, List.getElem_cons_zero, Act.put, List.setIfInBounds_toArray, List.set_cons_zero, List.set_cons_succ]
          refine Hd.done (by kernel_rfl) ?_
          simp only [List.drop_succ_cons, List.drop_zero]
          have zh := Lib.hid (zg.out.sub (L' := [_, _, _, _, _]) (List.Sublist.cons_cons _ (List.Sublist.cons_cons _ (List.Sublist.cons_cons _ (List.Sublist.cons _ (List.Sublist.cons _ (List.Sublist.cons_cons _ (List.Sublist.cons_cons _ (List.nil_sublist _)))))))))
          replace hsay := Lib.hid hsay
          clear hok hS0 hzd zf zg hbZ s0 s1 s2 f0 f1 f2
          go_wp2_with fail
          go_meet
          case rel => exact ⟨_, a6, c6, ao, co, rps, rfl, rfl, hsay.out, zh⟩
        · go_simp
          have z5 := Zoo.newBox z2 [.string ⟨#[]⟩, .int .u64 0, .slice none 0 0].toArray 25
          have bl5 := (Below.refl w2_.heap.size w2_).alloc (Nat.le_refl _) (.cells [.string ⟨#[]⟩, .int .u64 0, .slice none 0 0].toArray 25)
          generalize hn5 : w2_.heap.size = n5 at z5
          generalize (w2_.alloc (.cells [.string ⟨#[]⟩, .int .u64 0, .slice none 0 0].toArray 25)) = w5_ at z5 bl5 ⊢
          have li5 := li2.below bl5
          obtain ⟨hbS, -⟩ := Zoo.box z5 3 rfl
          refine hK _ _ ⟨box_cell hbS 0, box_cell hbS 1, box_cell hbS 2⟩ ?_
          clear hK K hbS
          try simp only [List.getElem_toArray, List.getElem_cons_succ, List.getElem_cons_zero, Act.put, List.setIfInBounds_toArray, List.set_cons_zero, List.set_cons_succ]
          refine Hd.one (i := 3) rfl (by kernel_rfl) (fun K hK => ?_)
          go_simp
          refine (sync_any ⟨bareS, 2, 9, 9, bareL [1, 3, 4], a5, c5⟩ alR (.slice ar 3 cr) true false w5_ (by decide) (by show 3 ≤ 100000; decide) (Zoo.ownC z5 4 rfl).rd.ranges li5 (bareL_fl _)).mono ?_
          rintro e w6_ ⟨v6, vo, rps, rfl, hz6, hsay⟩
          dsimp only
          rw [al_sync] at hz6
          rw [al_tell] at hsay
          obtain ⟨a6, c6, hv6⟩ := (hz6.out.ownC 1 rfl).len
          have hv6 : v6 = .slice a6 3 c6 := hv6
          subst hv6
          obtain ⟨ao, co, hvo⟩ := (hz6.out.own 0 rfl).len
          have hrl : rps.length = 2 := by have := congrArg List.length hsay.out; simpa using this
          rw [hrl] at hvo
          subst hvo
          have z6 := Zoo.join z5 hz6.out
          obtain ⟨hbS, -⟩ := Zoo.box z6 5 rfl
          refine hK _ _ ⟨box_cell hbS 0, box_cell hbS 1, box_cell hbS 2⟩ ?_
          clear hK K hbS
          try simp only [List.getElem_toArray, List.getElem_cons_succ, List.getElem_cons_zero, Act.put, List.setIfInBounds_toArray, List.set_cons_zero, List.set_cons_succ]
          obtain ⟨hbS, -⟩ := Zoo.box z6 5 rfl
          have hSn : w6_.cell? ⟨V1, 0, none⟩ = some (.string bareS) ∧ w6_.cell? ⟨V1, 1, none⟩ = some (.int .u64 2) ∧ w6_.cell? ⟨V1, 2, none⟩ = some (.slice ar 3 cr) := ⟨box_cell hbS 0, box_cell hbS 1, box_cell hbS 2⟩
          clear hbS
          refine Hd.take (i := 4) (v := ?tv45) hok rfl (by kernel_rfl) (fun _ _ _ h => h) (Or.inl ⟨by rfl, ?ty45⟩) (by assumption) ?tr45
          case ty45 => (intro w hSw; (try dsimp only at hSw); go_simp; (try with_reducible rfl))
          try simp only [List.getElem_toArray, List.getElem_cons_succ, List.getElem_cons_zero, Act.put, List.setIfInBounds_toArray, List.set_cons_zero, List.set_cons_succ]
          refine Hd.take (i := 5) (v := ?tv46) hok rfl (by kernel_rfl) (fun _ _ _ h => h) (Or.inl ⟨by rfl, ?ty46⟩) (by assumption) ?tr46
          case ty46 => (intro w hSw; (try dsimp only at hSw); go_simp; (try with_reducible rfl))
          try simp only [List.getElem_toArray, List.getElem_cons_succ, List.getElem_cons_zero, Act.put, List.setIfInBounds_toArray, List.set_cons_zero, List.set_cons_succ]
          refine Hd.take (i := 6) (v := ?tv47) hok rfl (by kernel_rfl) (fun _ _ _ h => h) (Or.inl ⟨by rfl, ?ty47⟩) (by assumption) ?tr47
          case ty47 => (intro w hSw; (try dsimp only at hSw); go_simp; (try with_reducible rfl))
          try simp only [List.getElem_toArray, List.getElem_cons_succ, List.getElem_cons_zero, Act.put, List.setIfInBounds_toArray, List.set_cons_zero, List.set_cons_succ]
          clear hSn
          have zf := Lib.hid (Zoo.fore z6 2 rfl)
          obtain ⟨hbZ, -⟩ := zf.out.box 0 rfl
          have s0 := box_cell hbZ 0
          have s1 := box_cell hbZ 1
          have s2 := box_cell hbZ 2
          simp at s0 s1 s2
          have f0 := box_free hbZ 0
          have f1 := box_free hbZ 1
          have f2 := box_free hbZ 2
          have zg := Lib.hid (zf.out.fillBox (C := [.string ⟨#[]⟩, .int .u64 0, .slice none 0 0]) 0 rfl [.string bareS, .int .u64 2, .slice a6 3 c6] rfl)
          simp only [World.setCells, Nat.zero_add] at zg
          refine Hd.one (i := 8) rfl (by kernel_rfl) (fun K hK => ?_)
          go_simp
          obtain ⟨hbS, -⟩ := Zoo.box zg.out 5 rfl
          refine hK _ _ ⟨box_cell hbS 0, box_cell hbS 1, box_cell hbS 2⟩ ?_
          clear hK K hbS
          try simp only [List.getElem_toArray, List.getElem_cons_succ, List.getElem_cons_zero, Act.put, List.setIfInBounds_toArray, List.set_cons_zero, List.set_cons_succ]
          refine Hd.done (by kernel_rfl) ?_
          simp only [List.drop_succ_cons, List.drop_zero]
          have zh := Lib.hid (zg.out.sub (L' := [_, _, _, _, _]) (List.Sublist.cons_cons _ (List.Sublist.cons_cons _ (List.Sublist.cons_cons _ (List.Sublist.cons _ (List.Sublist.cons _ (List.Sublist.cons_cons _ (List.Sublist.cons_cons _ (List.nil_sublist _)))))))))
          replace hsay := Lib.hid hsay
          clear hok hS0 hzd zf zg hbZ s0 s1 s2 f0 f1 f2
          go_wp2_with fail
          go_meet
          case rel => exact ⟨_, a6, c6, ao, co, rps, rfl, rfl, hsay.out, zh⟩
      · go_simp
        have z7 := Zoo.newBox z1 [.string ⟨#[]⟩, .int .u64 0, .slice none 0 0].toArray 25
        have bl7 := (Below.refl w1_.heap.size w1_).alloc (Nat.le_refl _) (.cells [.string ⟨#[]⟩, .int .u64 0, .slice none 0 0].toArray 25)
        generalize hn7 : w1_.heap.size = n7 at z7
        generalize (w1_.alloc (.cells [.string ⟨#[]⟩, .int .u64 0, .slice none 0 0].toArray 25)) = w7_ at z7 bl7 ⊢
        have rd7 := rd1.below bl7
        obtain ⟨hbS, -⟩ := Zoo.box z7 2 rfl
        refine hK _ _ ⟨box_cell hbS 0, box_cell hbS 1, box_cell hbS 2⟩ ?_
        clear hK K hbS
        try simp only [List.getElem_toArray, List.getElem_cons_succ, List.getElem_cons_zero, Act.put, List.setIfInBounds_toArray, List.set_cons_zero, List.set_cons_succ]
        refine Hd.one (i := 2) rfl (by kernel_rfl) (fun K hK => ?_)
        go_simp
        refine (box_any_vw [1, 3, 4] _ w7_ (by decide) rd7).mono ?_
        rintro e w8_ ⟨a5, c5, rfl, hz5⟩
        dsimp only
        have z8 := Zoo.join z7 hz5.out
        have li8 := bareL_in (z8.own 0 rfl)
        obtain ⟨hbS, -⟩ := Zoo.box z8 3 rfl
        refine hK _ _ ⟨box_cell hbS 0, box_cell hbS 1, box_cell hbS 2⟩ ?_
        clear hK K hbS
        try simp only [List.getElem_toArray, List.getElem_cons_succ, List.getElem_cons_zero, Act.put, List.setIfInBounds_toArray, List.set_cons_zero, List.set_cons_succ]
        refine Hd.one (i := 3) rfl (by kernel_rfl) (fun K hK => ?_)
        go_simp
        refine (sync_any ⟨bareS, 2, 9, 9, bareL [1, 3, 4], a5, c5⟩ alR (.slice ar 3 cr) true false w8_ (by decide) (by show 3 ≤ 100000; decide) (Zoo.ownC z8 4 rfl).rd.ranges li8 (bareL_fl _)).mono ?_
        rintro e w9_ ⟨v6, vo, rps, rfl, hz6, hsay⟩
        dsimp only
        rw [al_sync] at hz6
        rw [al_tell] at hsay
        obtain ⟨a6, c6, hv6⟩ := (hz6.out.ownC 1 rfl).len
        have hv6 : v6 = .slice a6 3 c6 := hv6
        subst hv6
        obtain ⟨ao, co, hvo⟩ := (hz6.out.own 0 rfl).len
        have hrl : rps.length = 2 := by have := congrArg List.length hsay.out; simpa using this
        rw [hrl] at hvo
        subst hvo
        have z9 := Zoo.join z8 hz6.out
        obtain ⟨hbS, -⟩ := Zoo.box z9 5 rfl
        refine hK _ _ ⟨box_cell hbS 0, box_cell hbS 1, box_cell hbS 2⟩ ?_
        clear hK K hbS
        try simp only [List.getElem_toArray, List.getElem_cons_succ, List.getElem_cons_zero, Act.put, List.setIfInBounds_toArray, List.set_cons_zero, List.set_cons_succ]
        obtain ⟨hbS, -⟩ := Zoo.box z9 5 rfl
        have hSn : w9_.cell? ⟨V1, 0, none⟩ = some (.string bareS) ∧ w9_.cell? ⟨V1, 1, none⟩ = some (.int .u64 2) ∧ w9_.cell? ⟨V1, 2, none⟩ = some (.slice ar 3 cr) := ⟨box_cell hbS 0, box_cell hbS 1, box_cell hbS 2⟩
        clear hbS
        refine Hd.take (i := 4) (v := ?tv48) hok rfl (by kernel_rfl) (fun _ _ _ h => h) (Or.inl ⟨by rfl, ?ty48⟩) (by assumption) ?tr48
        case ty48 => (intro w hSw; (try dsimp only at hSw); go_simp; (try with_reducible rfl))
        try simp only [List.getElem_toArray, List.getElem_cons_succ, List.getElem_cons_zero, Act.put, List.setIfInBounds_toArray, List.set_cons_zero, List.set_cons_succ]
        refine Hd.take (i := 5) (v := ?tv49) hok rfl (by kernel_rfl) (fun _ _ _ h => h) (Or.inl ⟨by rfl, ?ty49⟩) (by assumption) ?tr49
        case ty49 => (intro w hSw; (try dsimp only at hSw); go_simp; (try with_reducible rfl))
        try simp only [List.getElem_toArray, List.getElem_cons_succ, List.getElem_cons_zero, Act.put, List.setIfInBounds_toArray, List.set_cons_zero, List.set_cons_succ]
        refine Hd.take (i := 6) (v := ?tv50) hok rfl (by kernel_rfl) (fun _ _ _ h => h) (Or.inl ⟨by rfl, ?ty50⟩) (by assumption) ?tr50
        case ty50 => (intro w hSw; (try dsimp only at hSw); go_simp; (try with_reducible rfl))
        try simp only [List.getElem_toArray, List.getElem_cons_succ, List.getElem_cons_zero, Act.put, List.setIfInBounds_toArray, List.set_cons_zero, List.set_cons_succ]
        clear hSn
        have zf := Lib.hid (Zoo.fore z9 3 rfl)
        obtain ⟨hbZ, -⟩ := zf.out.box 0 rfl
        have s0 := box_cell hbZ 0
        have s1 := box_cell hbZ 1
        have s2 := box_cell hbZ 2
        simp at s0 s1 s2
        have f0 := box_free hbZ 0
        have f1 := box_free hbZ 1
        have f2 := box_free hbZ 2
        have zg := Lib.hid (zf.out.fillBox (C := [.string ⟨#[]⟩, .int .u64 0, .slice none 0 0]) 0 rfl [.string bareS, .int .u64 2, .slice a6 3 c6] rfl)
        simp only [World.setCells, Nat.zero_add] at zg
        refine Hd.one (i := 8) rfl (by kernel_rfl) (fun K hK => ?_)
        go_simp
        obtain ⟨hbS, -⟩ := Zoo.box zg.out 5 rfl
        refine hK _ _ ⟨box_cell hbS 0, box_cell hbS 1, box_cell hbS 2⟩ ?_
        clear hK K hbS
        try simp only [List.getElem_toArray, List.getElem_cons_succ, List.getElem_cons_zero, Act.put, List.setIfInBounds_toArray, List.set_cons_zero, List.set_cons_succ]
        refine Hd.done (by kernel_rfl) ?_
        simp only [List.drop_succ_cons, List.drop_zero]
        have zh := Lib.hid (zg.out.sub (L' := [_, _, _, _, _]) (List.Sublist.cons_cons _ (List.Sublist.cons_cons _ (List.Sublist.cons_cons _ (List.Sublist.cons _ (List.Sublist.cons _ (List.Sublist.cons_cons _ (List.Sublist.cons_cons _ (List.nil_sublist _)))))))))
        replace hsay := Lib.hid hsay
        clear hok hS0 hzd zf zg hbZ s0 s1 s2 f0 f1 f2
        go_wp2_with fail
        go_meet
        case rel => exact ⟨_, a6, c6, ao, co, rps, rfl, rfl, hsay.out, zh⟩
    · go_simp
      have z10 := Zoo.newBox hzd [.string ⟨#[]⟩, .int .u64 0, .slice none 0 0].toArray 25
      have bl10 := (Below.refl wd.heap.size wd).alloc (Nat.le_refl _) (.cells [.string ⟨#[]⟩, .int .u64 0, .slice none 0 0].toArray 25)
      generalize hn10 : wd.heap.size = n10 at z10
      generalize (wd.alloc (.cells [.string ⟨#[]⟩, .int .u64 0, .slice none 0 0].toArray 25)) = w10_ at z10 bl10 ⊢
      obtain ⟨hbS, -⟩ := Zoo.box z10 1 rfl
      refine hK _ _ ⟨box_cell hbS 0, box_cell hbS 1, box_cell hbS 2⟩ ?_
      clear hK K hbS
      try simp only [List.getElem_toArray, List.getElem_cons_succ, List.getElem_cons_zero, Act.put, List.setIfInBounds_toArray, List.set_cons_zero, List.set_cons_succ]
      refine Hd.one (i := 1) rfl (by kernel_rfl) (fun K hK => ?_)
      go_simp
      have z11 := Zoo.newBox z10 [.int .u64 1, .int .u64 3, .int .u64 4].toArray 22
      have rd11 : Rd _ (.slice (some ⟨w10_.heap.size, 0, none⟩) 3 3) 3 ([1, 3, 4].map encU) := rd_new w10_ [1, 3, 4] 22
      change Rd (w10_.alloc (.cells [.int .u64 1, .int .u64 3, .int .u64 4].toArray 22)) _ _ _ at rd11
      generalize w10_.heap.size = n11 at z11 rd11 ⊢
      generalize (w10_.alloc (.cells [.int .u64 1, .int .u64 3, .int .u64 4].toArray 22)) = w11_ at z11 rd11 ⊢
      obtain ⟨hbS, -⟩ := Zoo.box z11 2 rfl
      refine hK _ _ ⟨box_cell hbS 0, box_cell hbS 1, box_cell hbS 2⟩ ?_
      clear hK K hbS
      try simp only [List.getElem_toArray, List.getElem_cons_succ, List.getElem_cons_zero, Act.put, List.setIfInBounds_toArray, List.set_cons_zero, List.set_cons_succ]
      refine Hd.one (i := 2) rfl (by kernel_rfl) (fun K hK => ?_)
      go_simp
      refine (box_any_vw [1, 3, 4] _ w11_ (by decide) rd11).mono ?_
      rintro e w12_ ⟨a5, c5, rfl, hz5⟩
      dsimp only
      have z12 := Zoo.join z11 hz5.out
      have li12 := bareL_in (z12.own 0 rfl)
      obtain ⟨hbS, -⟩ := Zoo.box z12 3 rfl
      refine hK _ _ ⟨box_cell hbS 0, box_cell hbS 1, box_cell hbS 2⟩ ?_
      clear hK K hbS
      try simp only [List.getElem_toArray, List.getElem_cons_succ, List.getElem_cons_zero, Act.put, List.setIfInBounds_toArray, List.set_cons_zero, List.set_cons_succ]
      refine Hd.one (i := 3) rfl (by kernel_rfl) (fun K hK => ?_)
      go_simp
      refine (sync_any ⟨bareS, 2, 9, 9, bareL [1, 3, 4], a5, c5⟩ alR (.slice ar 3 cr) true false w12_ (by decide) (by show 3 ≤ 100000; decide) (Zoo.ownC z12 4 rfl).rd.ranges li12 (bareL_fl _)).mono ?_
      rintro e w13_ ⟨v6, vo, rps, rfl, hz6, hsay⟩
      dsimp only
      rw [al_sync] at hz6
      rw [al_tell] at hsay
      obtain ⟨a6, c6, hv6⟩ := (hz6.out.ownC 1 rfl).len
      have hv6 : v6 = .slice a6 3 c6 := hv6
      subst hv6
      obtain ⟨ao, co, hvo⟩ := (hz6.out.own 0 rfl).len
      have hrl : rps.length = 2 := by have := congrArg List.length hsay.out; simpa using this
      rw [hrl] at hvo
      subst hvo
      have z13 := Zoo.join z12 hz6.out
      obtain ⟨hbS, -⟩ := Zoo.box z13 5 rfl
      refine hK _ _ ⟨box_cell hbS 0, box_cell hbS 1, box_cell hbS 2⟩ ?_
      clear hK K hbS
      try simp only [List.getElem_toArray, List.getElem_cons_succ, List.getElem_cons_zero, Act.put, List.setIfInBounds_toArray, List.set_cons_zero, List.set_cons_succ]
      obtain ⟨hbS, -⟩ := Zoo.box z13 5 rfl
      have hSn : w13_.cell? ⟨V1, 0, none⟩ = some (.string bareS) ∧ w13_.cell? ⟨V1, 1, none⟩ = some (.int .u64 2) ∧ w13_.cell? ⟨V1, 2, none⟩ = some (.slice ar 3 cr) := ⟨box_cell hbS 0, box_cell hbS 1, box_cell hbS 2⟩
      clear hbS
      refine Hd.take (i := 4) (v := ?tv51) hok rfl (by kernel_rfl) (fun _ _ _ h => h) (Or.inl ⟨by rfl, ?ty51⟩) (by assumption) ?tr51
      case ty51 => (intro w hSw; (try dsimp only at hSw); go_simp; (try with_reducible rfl))
      try simp only [List.getElem_toArray, List.getElem_cons_succ, List.getElem_cons_zero, Act.put, List.setIfInBounds_toArray, List.set_cons_zero, List.set_cons_succ]
      refine Hd.take (i := 5) (v := ?tv52) hok rfl (by kernel_rfl) (fun _ _ _ h => h) (Or.inl ⟨by rfl, ?ty52⟩) (by assumption) ?tr52
      case ty52 => (intro w hSw; (try dsimp only at hSw); go_simp; (try with_reducible rfl))
      try simp only [List.getElem_toArray, List.getElem_cons_succ, List.getElem_cons_zero, Act.put, List.setIfInBounds_toArray, List.set_cons_zero, List.set_cons_succ]
      refine Hd.take (i := 6) (v := ?tv53) hok rfl (by kernel_rfl) (fun _ _ _ h => h) (Or.inl ⟨by rfl, ?ty53⟩) (by assumption) ?tr53
      case ty53 => (intro w hSw; (try dsimp only at hSw); go_simp; (try with_reducible rfl))
      try simp only [List.getElem_toArray, List.getElem_cons_succ, List.getElem_cons_zero, Act.put, List.setIfInBounds_toArray, List.set_cons_zero, List.set_cons_succ]
      clear hSn
      have zf := Lib.hid (Zoo.fore z13 4 rfl)
      obtain ⟨hbZ, -⟩ := zf.out.box 0 rfl
      have s0 := box_cell hbZ 0
      have s1 := box_cell hbZ 1
      have s2 := box_cell hbZ 2
      simp at s0 s1 s2
      have f0 := box_free hbZ 0
      have f1 := box_free hbZ 1
      have f2 := box_free hbZ 2
      have zg := Lib.hid (zf.out.fillBox (C := [.string ⟨#[]⟩, .int .u64 0, .slice none 0 0]) 0 rfl [.string bareS, .int .u64 2, .slice a6 3 c6] rfl)
      simp only [World.setCells, Nat.zero_add] at zg
      refine Hd.one (i := 8) rfl (by kernel_rfl) (fun K hK => ?_)
      go_simp
      obtain ⟨hbS, -⟩ := Zoo.box zg.out 5 rfl
      refine hK _ _ ⟨box_cell hbS 0, box_cell hbS 1, box_cell hbS 2⟩ ?_
      clear hK K hbS
      try simp only [List.getElem_toArray, List.getElem_cons_succ, List.getElem_cons_zero, Act.put, List.setIfInBounds_toArray, List.set_cons_zero, List.set_cons_succ]
      refine Hd.done (by kernel_rfl) ?_
      simp only [List.drop_succ_cons, List.drop_zero]
      have zh := Lib.hid (zg.out.sub (L' := [_, _, _, _, _]) (List.Sublist.cons_cons _ (List.Sublist.cons_cons _ (List.Sublist.cons_cons _ (List.Sublist.cons _ (List.Sublist.cons _ (List.Sublist.cons_cons _ (List.Sublist.cons_cons _ (List.nil_sublist _)))))))))
      replace hsay := Lib.hid hsay
      clear hok hS0 hzd zf zg hbZ s0 s1 s2 f0 f1 f2
      go_wp2_with fail
      go_meet
      case rel => exact ⟨_, a6, c6, ao, co, rps, rfl, rfl, hsay.out, zh⟩
  case rest =>
  obtain ⟨V2, a6, c6, ao, co, rps, rfl, rfl, hsay, hz7⟩ := hcut
  generalize wc = w5 at *
  clear hz6
  obtain ⟨x, y, rfl, hx1, hx2, hy1, hy2⟩ := say_two hsay.out
  obtain ⟨hbV, -⟩ := hz7.out.box 3 rfl
  have s0 : w5.cell? ⟨V1, 0, none⟩ = some (.string bareS) := box_cell hbV 0
  have s1 : w5.cell? ⟨V1, 1, none⟩ = some (.int .u64 2) := box_cell hbV 1
  have s2 : w5.cell? ⟨V1, 2, none⟩ = some (.slice ar 3 cr) := box_cell hbV 2
  have hza := Lib.hid (hz7.out.alloc (.cells #[.int .u64 2, .int .u64 0] 57))
  have hme := Lib.hid (meantNum_any bareS 2 [(2, 0)] alR (.slice ar 3 cr) (.slice (some ⟨w5.heap.size, 0, none⟩) 1 1) (w5.alloc (.cells #[.int .u64 2, .int .u64 0] 57)) (by decide) (by decide) (hza.out.ownC 4 rfl).rd.ranges (OwnR.one w5 2 0).ranges)
  clear hbV hsay
  go_wp2_with fail
  refine hme.out.mono ?_
  rintro e w6 ⟨v6, rfl, ho6, hb6⟩
  have hz8 := Lib.hid (hza.out.below hb6.out)
  have ho7 : Hid (OwnN w6 (w5.alloc (.cells #[.int .u64 2, .int .u64 0] 57)).heap.size v6 [2, 3]) := ho6
  have hz9 := Lib.hid (hz8.out.alloc (.cells #[.int .u64 2, .int .u64 3] 22))
  have hsn := Lib.hid (sameNums_any v6 (.slice (some ⟨w6.heap.size, 0, none⟩) 2 2) [2, 3] [2, 3] (w6.alloc (.cells #[.int .u64 2, .int .u64 3] 22)) (ho7.out.alloc _).rd (rd_new w6 [2, 3] 22) (by decide))
  obtain ⟨a7, c7, hv7⟩ := ho7.out.len
  have hv7 : v6 = .slice a7 2 c7 := hv7
  subst hv7
  obtain ⟨g, cap, hvo, -, hgl, hrc⟩ := (hz8.out.own 1 rfl).cells (j := 0) (by simp)
  obtain ⟨g', cap', hvo', -, -, hrc'⟩ := (hz8.out.own 1 rfl).cells (j := 1) (by simp)
  injection hvo with e1 e2 e3
  subst e1
  injection hvo' with e1' e2' e3'
  injection e1' with e1'
  injection e1' with e1'
  subst e1'
  obtain ⟨hbV, -⟩ := hz8.out.box 0 rfl
  have k0 : w6.cell? ⟨g, 0, none⟩ = some (.int .i64 9) := by have := hrc 0 (by decide); rw [show rpT.K = 10 from rfl, Nat.zero_mul] at this; rw [this]; show some (Value.int .i64 (x.kind : Int)) = _; rw [hx1]; rfl
  have k4 : w6.cell? ⟨g, 4, none⟩ = some (.int .u64 2) := by have := hrc 4 (by decide); rw [show rpT.K = 10 from rfl, Nat.zero_mul] at this; rw [this]; show some (Value.int .u64 (x.n : Int)) = _; rw [hx2]; rfl
  have k10 : w6.cell? ⟨g, 10, none⟩ = some (.int .i64 8) := by have := hrc' 0 (by decide); rw [show rpT.K = 10 from rfl, Nat.one_mul] at this; rw [this]; show some (Value.int .i64 (y.kind : Int)) = _; rw [hy1]; rfl
  have k14 : w6.cell? ⟨g, 14, none⟩ = some (.int .u64 3) := by have := hrc' 4 (by decide); rw [show rpT.K = 10 from rfl, Nat.one_mul] at this; rw [this]; show some (Value.int .u64 (y.n : Int)) = _; rw [hy2]; rfl
  have v2 : w6.cell? ⟨V2, 2, none⟩ = some (.slice a6 3 c6) := box_cell hbV 2
  obtain ⟨g2, cap2, rest2, hv2, -, -, hpr2, -⟩ := (hz8.out.ownC 2 rfl).row (by decide)
  injection hv2 with q1 q2 q3
  subst q1
  have r4 : w6.cell? ⟨g2, 4, none⟩ = some (.int .u64 4) := hpr2.cell 2 0 (by decide) (by decide)
  have hbF := Lib.hid hz9.out.bel
  clear s0 s1 s2 hme ho6 hb6 hza hz7 hrc hrc' hx1 hx2 hy1 hy2 hbV e2 e3 e2' e3' q2 q3 ho7 hz8 hz9 hpr2
  go_wp2_with fail
  refine hsn.out.mono ?_
  rintro e w7 ⟨rfl, hb7⟩
  have hbE := Lib.hid (hbF.out.trans (hb7.mono hbF.out.size))
  clear hsn hb7 hbF
  go_wp2_with fail
  go_ret
  exact ⟨rfl, hbE⟩
end Go.Proofs.Ytcnebfmlelcliaa
namespace Go.Proofs.Ytcnebfmlelcliaa
open Go.RowKit

theorem Stay.setCellL {w : World} {P : World → Prop} {L : List Nat} (h : Stay (Go.Proofs.Ytcnebfmlelcliaa.okL L) w P) {B : Nat} (hB : B ∈ L) (j : Nat) (u : Value) : Stay (Go.Proofs.Ytcnebfmlelcliaa.okL L) (w.setCell ⟨B, j, none⟩ u) P :=
  h.on (by simp) (fun k hk _ => heap_setCell_other w ⟨B, j, none⟩ k _ (hk B hB))
theorem MlIn.stayL {W w : World} {v : Value} {m : Ml} {L : List Nat} (h : MlIn W v m) (hb : Below W.heap.size W w) (hL : ∀ b ∈ L, W.heap.size ≤ b) : Stay (okL L) w fun x => MlIn x v m :=
  ((h.stay.weak (ok2 := fun k => k < W.heap.size) (fun _ hk _ => hk)).below hb).weak (fun k _ hk b hm e => by
    have := hL b hm
    have h2 : k < W.heap.size := hk
    omega)
/-- a mailbox of a right state, read: its rows -/
theorem box_facts {m : Ml} {z : BxV} (hr : RightP m) (hf : findM m inboxS = some z.b) : z.name = inboxS ∧ BoxP z.b m.nv ∧ z.rows.length ≤ 32 ∧ (∀ y ∈ z.rows, y.x.flags.length ≤ 100000) ∧ rowsB z.b = z.rows.map ltRow := by
  obtain ⟨h1, h2⟩ := findM_mem hf
  have hb := hr.boxes _ h1
  refine ⟨h2, hb, by have := hb.len; unfold BxV.b at this; rwa [List.length_map] at this, fun y hy => ?_, by unfold rowsB BxV.b; rw [List.map_map]; rfl⟩
  have := right_16 (hb.lets y.x (List.mem_map.2 ⟨y, hy, rfl⟩)).fl
  omega
end Go.Proofs.Ytcnebfmlelcliaa



namespace Go.Proofs.Ytcnebfmlelcliaa
open Go.RowKit

def turn (r : Rng) : Rng := (r.2, r.1)
def turnL (rs : List Rng) : List Rng := (rs.map turn).reverse
end Go.Proofs.Ytcnebfmlelcliaa
namespace Go.Proofs.Ytcnebfmlelcliaa
open Go.RowKit Go.Shelf Go.Maps
attribute [local go_sem] Oper.semAt_some

theorem encU_inj {x y : Nat} (h : encU x = encU y) : x = y := by
  unfold encU at h
  injection h with h1 h2
  omega
theorem key_u64 {P : Program} {k : TypeId} (hk : P.underlying k = some (.int .u64)) {key : Value} {kl : Lit} (h : keyOf P k key = some kl) : ∃ x : Nat, key = encU x ∧ kl = .int .u64 (x : Int) ∧ x < 18446744073709551616 := by
  cases key <;> simp [keyOf, hk, mapKey] at h
  rename_i q a
  obtain ⟨⟨rfl, hw⟩, rfl⟩ := h
  have hb := Go.bounds_u64 hw
  exact ⟨a.toNat, by unfold encU; congr 1; omega, by congr 1; omega, by omega⟩
/-- no key twice; a key has come just where the map has it and it is no longer to come -/
def Came {H : Type} (D0 : DataW H) (left : Lit → Bool) (ss : List Nat) : Prop := ss.Nodup ∧ ∀ x : Nat, x ∈ ss ↔ (Maps.has D0 (.int .u64 x) = true ∧ left (.int .u64 x) = false)
/-- just the map's keys -/
def KeysOf {H : Type} (D0 : DataW H) (ss : List Nat) : Prop := (ss.Nodup ∧ ∀ x : Nat, x ∈ ss ↔ Maps.has D0 (.int .u64 x) = true) ∧ ss.length ≤ Maps.size D0
theorem Came.start {H : Type} (D0 : DataW H) : Came D0 (Maps.has D0) [] := ⟨List.nodup_nil, fun x => by cases Maps.has D0 (.int .u64 x) <;> simp⟩
theorem Came.step {H : Type} {D0 : DataW H} {left : Lit → Bool} {ss : List Nat} (h : Came D0 left ss) {x : Nat} {y : DataW H} (hlk : left (.int .u64 x) = true) (hat : ∀ zd, D0.atKey (.int .u64 x) zd = y) : Came D0 (fun z => left z && !z.sameKey (.int .u64 x)) (ss ++ [x]) := by
  have hhas : Maps.has D0 (.int .u64 x) = true := Maps.has_true_of_atKey hat
  have hnew : x ∉ ss := fun hx => by have := ((h.2 x).1 hx).2; rw [hlk] at this; cases this
  refine ⟨List.nodup_append.2 ⟨h.1, by simp, fun a ha b hb => by simp at hb; subst hb; exact fun e => hnew (e ▸ ha)⟩, fun y => ?_⟩
  by_cases hy : y = x
  · subst hy; simp [hhas, Lit.sameKey]
  · have hy' : ¬ ((y : Int) = (x : Int)) := by omega
    simp [h.2 y, hy, hy', Lit.sameKey]
theorem Came.done {H : Type} {D0 : DataW H} {left : Lit → Bool} {ss : List Nat} (h : Came D0 left ss) (hl : ∀ kl, left kl = false) (hn : ss.length ≤ Maps.size D0) : KeysOf D0 ss := ⟨⟨h.1, fun x => by rw [h.2 x, hl]; simp⟩, hn⟩
def encsU (x : Nat) : Array Value := #[encU x]
set_option maxRecDepth 100000 in
set_option maxHeartbeats 2000000 in
theorem keys1_in {H : Type} (n : Nat) (hn : 1 ≤ n) (l Bm b nn : Nat) (D0 : DataW H) {R : Value → Option (DataW H × List MemPlace)} (J Jx : List Nat → World → Prop) (W : World) (hJ : AbidesFrom W.heap.size J)
    (hY : ∀ pre x W1, J pre W1 → pre.length < Maps.size D0 → YieldAt Fence.wide (n - 1) Try.prog l (encsU x) W1 fun e W' =>
      (e = .returned (.bool true) ∧ J (pre ++ [x]) W' ∧ KeepsWalks W1 W') ∨ (e = .returned (.bool false) ∧ Jx (pre ++ [x]) W'))
    (hm : W.cell? ⟨Bm, 0, none⟩ = some (.map (some b))) (hown : W.ownsMap Try.prog 22 R b nn D0) (h0 : J [] W) :
    CallsIn Fence.wide n Try.prog 58 #[.func (.yield l) #[] #[], .pointer (some ⟨Bm, 0, none⟩)] W fun e W' => (∃ v, e = .returned v) ∧ ((∃ ys, KeysOf D0 ys ∧ J ys W') ∨ (∃ pre, True ∧ Jx pre W')) := by
  refine callsIn_of_wp Try.func58 rfl trivial ?_ rfl
  simp only [Try.ntmps58, List.size_toArray, List.length_cons, List.length_nil, Nat.reduceAdd, Nat.reduceSub, Array.replicate_succ, Array.replicate_zero, List.push_toArray, List.append_toArray, List.nil_append, List.cons_append]
  gi_wp2_with (first
    | (gi_at_range; refine wpListIn_range_own _ rfl _ 89 rfl 22 3 (int_keyed Try.underlying22) Try.underlying89 _ b nn _ rfl hown ?_; intro w0 hrg0 hg0 hs0)
    | gi_in)
  go_frame
  gi_loopw [3] (fun _ wr => ∃ (left : Lit → Bool) (cnt : Nat) (ss : List Nat), wr.ranges Try.prog 22 R b W.heap.size nn D0 left cnt ∧ ss.length + cnt ≤ Maps.size D0 ∧ Came D0 left ss ∧ J ss wr)
    (fun _ wr => wr.rangeLeft b W.heap.size)
  case atStart =>
    exact ⟨_, _, [], hrg0, by simp, Came.start D0, hJ [] W w0 none h0 hg0 (fun r e => by cases e)⟩
  case round =>
    obtain ⟨left, cnt, ss, hrg, hcs, hC, hJs⟩ := hrel
    gi_wp2_with (first
      | (gi_at_next; refine wpListIn_next_ranges _ rfl _ rfl 22 (int_keyed Try.underlying22) R encU id (fun key kl hk => by obtain ⟨x, hx, _⟩ := key_u64 Try.underlying22 hk; exact ⟨x, hx⟩) (fun v _ _ => ⟨v, rfl⟩) b W.heap.size nn _ _ _ rfl hrg ?_ ?_)
      | gi_in)
    · intro hc0 hl0
      gi_wp2
      go_end0
      exact ⟨⟨_, rfl⟩, .inl ⟨ss, hC.done hl0 (by omega), hJs⟩⟩
    · intro x c kl yd yp w2 cnt2 hkey hlk hv hat hrg2 hlt hg2 hs2 hen
      obtain ⟨x', ex, rfl, _⟩ := key_u64 Try.underlying22 hkey
      obtain rfl : x = x' := encU_inj ex
      have hJ2 : J ss w2 := hJ ss wr w2 (some W.heap.size) hJs hg2 (fun r e => by cases e; exact ⟨Nat.le_refl _, hrg.iter_walk⟩)
      obtain ⟨fn, tmps, assign, body, hy, hR⟩ := hY ss x w2 hJ2 (by omega)
      unfold encsU at hy
      clear hs2
      gi_wp2
      refine hR.mono ?_
      rintro e W3 (⟨rfl, hJ3, hk3⟩ | ⟨rfl, hJx3⟩)
      · gi_wp2
        have hrg3 := hrg2.of_walks hk3
        go_roundw
        case rel => exact ⟨_, cnt2, ss ++ [x], hrg3, by simp; omega, hC.step hlk hat, hJ3⟩
        case measure => rw [hrg3.left_eq, hrg.left_eq]; exact hlt
      · gi_wp2
        refine bodyPost_ret (results_none rfl _ _ _) rfl ?_
        exact ⟨⟨_, rfl⟩, .inr ⟨_, trivial, hJx3⟩⟩
theorem keys_stops {H : Type} (n : Nat) (hn : 1 ≤ n) (Bm b nn : Nat) (D0 : DataW H) {R : Value → Option (DataW H × List MemPlace)} (w : World) (hBm : Bm < w.heap.size) (hm : w.cell? ⟨Bm, 0, none⟩ = some (.map (some b))) (hown : w.ownsMap Try.prog 22 R b nn D0) :
    SeqStopsK Fence.wide n Try.prog 58 #[.pointer (some ⟨Bm, 0, none⟩)] encsU KeepsWalks (KeysOf D0) (fun _ => True) (Maps.size D0) w := fun l J Jx W hW hJ _ hY h0 => by
  have hown' : W.ownsMap Try.prog 22 R b nn D0 := by
    have hbl := hown.lt
    obtain ⟨es, clock, hb, Ft, hs, hD⟩ := hown
    exact ⟨es, clock, (hW.block b hbl).trans hb, Ft, hs, hD⟩
  exact keys1_in n hn l Bm b nn D0 J Jx W hJ hY ((hW.cell (p := ⟨Bm, 0, none⟩) hBm).trans hm) hown' h0
set_option maxHeartbeats 1000000 in
/-- maps.Keys(m): the map is boxed; the function value captures the box -/
theorem keys_in (mb : Option Nat) (w : World) :
    Calls Try.prog 48 #[.map mb] w fun e w' => e = .returned (.func (.func 58) #[] #[.pointer (some ⟨w.heap.size, 0, none⟩)]) ∧ w' = w.alloc (.cells #[.map mb] 89) := by
  go_enter Try.func48, Try.ntmps48
  go_wp2_with fail
  go_ret
  exact ⟨rfl, rfl⟩
/-- what is collected of the keys of the map in block b -/
def CollectRet {H : Type} (D0 : DataW H) (w : World) (e : Ending) (w' : World) : Prop := ∃ (v : Value) (ss : List Nat), e = .returned v ∧ Hid (KeysOf D0 ss) ∧ Hid (OwnN w' w.heap.size v ss) ∧ Hid (Below w.heap.size w w')
set_option maxRecDepth 100000 in
set_option maxHeartbeats 4000000 in
theorem appendSeq_any {H : Type} (Bm b nn : Nat) (D0 : DataW H) {R : Value → Option (DataW H × List MemPlace)} (w : World) (hBm : Bm < w.heap.size) (hm : w.cell? ⟨Bm, 0, none⟩ = some (.map (some b))) (hown : w.ownsMap Try.prog 22 R b nn D0) (hsz : Maps.size D0 ≤ 1000000) :
    Calls Try.prog 65 #[.slice none 0 0, .func (.func 58) #[] #[.pointer (some ⟨Bm, 0, none⟩)]] w (CollectRet D0 w) := by
  refine (callsIn_wide (n := 3)).1 ?_
  refine callsIn_of_wp_marks Try.func65 rfl trivial ?_ rfl
  simp only [Try.ntmps65, List.size_toArray, List.length_cons, List.length_nil, Nat.reduceAdd, Nat.reduceSub, Array.replicate_succ, Array.replicate_zero, List.push_toArray, List.append_toArray, List.nil_append, List.cons_append]
  gi_wp2
  generalize hW0 : w.alloc (.cells #[.slice none 0 0] 30) = W0
  have hs0 : W0.heap.size = w.heap.size + 1 := by rw [← hW0]; simp
  have hB0 : Below w.heap.size w W0 := by rw [← hW0]; exact (Below.refl _ w).alloc (Nat.le_refl _) _
  have hbx : Boxed W0 w.heap.size 30 (.slice none 0 0) := by rw [← hW0]; exact Boxed.new w _ _
  have hown0 : W0.ownsMap Try.prog 22 R b nn D0 := by
    have hbl := hown.lt
    obtain ⟨es, clock, hb, Ft, hs, hD⟩ := hown
    exact ⟨es, clock, (hB0.block b hbl).trans hb, Ft, hs, hD⟩
  have hst := keys_stops 2 (by decide) Bm b nn D0 W0 (by omega) ((hB0.cell (p := ⟨Bm, 0, none⟩) hBm).trans hm) hown0
  obtain ⟨i0, hi, hz0, hz1, hz2⟩ := info_parts u64_info
  have hne : 30 ≠ 22 := by decide
  clear hW0 hown hm
  refine wpIn_rangeFunc_ownF rfl (by decide) (gf := 58) (lb := #[.pointer (some ⟨Bm, 0, none⟩)]) rfl trivial (enters_of Try.func58 (by kernel_rfl) rfl)
    hst walksK_t walksK_b (Below.refl _ _) (fun _ => rfl)
    (fun pre W => (∃ v, Boxed W w.heap.size 30 v ∧ W.ownsRow w.heap.size 22 1 v pre.length (pre.map encU) ∧ True) ∧ Below w.heap.size w W)
    (fun _ _ _ => False)
    (OwnFrom.and (Own.from (holdsRow_own w.heap.size w.heap.size 30 22 1 (fun pre : List Nat => pre.length) (fun pre => pre.map encU) (fun _ _ => True)) _) (ownFrom_below (Nat.le_refl _) (by omega)))
    (fun c => Own.from (fun _ _ _ _ hs _ _ => hs) _)
    ⟨⟨_, hbx, World.ownsRow_nil _ _ _ _, trivial⟩, hB0⟩
    (fun x => { tmps := #[.slice none 0 0, .func (.func 58) #[] #[.pointer (some ⟨Bm, 0, none⟩)], .pointer (some ⟨w.heap.size, 0, none⟩), undef, .slice none 0 0, .int .u64 (x : Int), .func (.func 58) #[] #[.pointer (some ⟨Bm, 0, none⟩)], .int .u64 (x : Int), undef, undef, undef, undef, undef], defers := [] }) ?assign ?body ?done ?stop
  case assign =>
    intro l x W K hK
    simp only [encsU, encU]
    gi_wp2
    exact hK
  case body =>
    rintro l pre x W ⟨⟨v, hv, hrow, -⟩, hB⟩ hlen
    have hc := hv.cell
    have hf := hv.frozen
    gi_wp2_with (gi_at_builtin; refine wpListIn_append_own _ rfl _ _ 30 rfl w.heap.size 22 i0 (.int .u64 0) 1 8 Try.underlying30 hi hz0 hz1 hz2 rfl (by decide) _ _ _ rfl (hrow.alloc _) ⟨W.heap.size, 0, none⟩ 1 1 [.int .u64 (x : Int)] rfl rfl (cell_one_new _ _ _) (by simp [Value.oneCell']) (by unfold maxLen; omega) (by omega) (by have := hB.size; simp; omega) ?_; intro v' w1 hown' hgrow _; obtain ⟨g', cap', rfl⟩ := ownsRow_succ hown'; obtain ⟨hv1, hv2, hr2, hk2, hb2⟩ := hv.appended hne hrow hB.size (Nat.le_refl _) hown' hgrow; have hc1 := hv1.cell; have hf1 := hv1.frozen)
    exact ⟨hk2, hk2.walks, ⟨_, hv2, by simpa [encU] using hr2, trivial⟩, hB.trans hb2⟩
  case done =>
    rintro D ys W hD hys ⟨⟨v, hv, hrow, -⟩, hB⟩ hK
    have c1 := hv.cell
    gi_wp2
    refine ⟨by simp, .inl ⟨_, _, rfl, run_takeDeferred hK, ?_⟩⟩
    refine ⟨_, ?_, v, ys, rfl, Lib.hid hys, Lib.hid (ownsRow_putObj hrow _ hK rfl), Lib.hid (hB.trans (belowK_b (w := w) (Nat.le_refl _) _ D _ _ (by omega) hK rfl rfl))⟩
    simp [results, Try.f65, go_sem]
  case stop =>
    rintro D c pre W hD hpre hF
    exact hF.elim
end Go.Proofs.Ytcnebfmlelcliaa
namespace Go.Proofs.Ytcnebfmlelcliaa
open Go.RowKit Go.Maps

theorem collect_any {H : Type} (Bm b nn : Nat) (D0 : DataW H) {R : Value → Option (DataW H × List MemPlace)} (w : World) (hBm : Bm < w.heap.size) (hm : w.cell? ⟨Bm, 0, none⟩ = some (.map (some b))) (hown : w.ownsMap Try.prog 22 R b nn D0) (hsz : Maps.size D0 ≤ 1000000) :
    Calls Try.prog 56 #[.func (.func 58) #[] #[.pointer (some ⟨Bm, 0, none⟩)]] w (CollectRet D0 w) := by
  have hc := Lib.hid (appendSeq_any Bm b nn D0 w hBm hm hown hsz)
  clear hm hown
  go_enter Try.func56, Try.ntmps56
  go_wp2_with fail
  refine hc.out.mono ?_
  rintro e w1 ⟨v, ss, rfl, h1, h2, h3⟩
  go_wp2_with fail
  go_ret
  exact ⟨v, ss, rfl, h1, h2, h3⟩
/-- what slices.Sort does to a row of the call's own of at most N numbers -/
def SortOk (N : Nat) : Prop := ∀ (W : World) (B : Nat) (v : Value) (ss : List Nat), ss.length ≤ N → B ≤ W.heap.size → OwnN W B v ss → Calls Try.prog 57 #[v] W fun e W' => e = .returned (.tuple #[]) ∧ ∃ ts, Hid (OwnN W' B v ts) ∧ Hid (ts.Perm ss ∧ ts.Pairwise (· ≤ ·)) ∧ Hid (Below B W W')
/-- the map's keys, rising -/
def SortedRet {H : Type} (D0 : DataW H) (w : World) (e : Ending) (w' : World) : Prop := ∃ (v : Value) (ts : List Nat), e = .returned v ∧ Hid (KeysOf D0 ts ∧ ts.Pairwise (· ≤ ·)) ∧ Hid (OwnN w' w.heap.size v ts) ∧ Hid (Below w.heap.size w w')
theorem KeysOf.perm {H : Type} {D0 : DataW H} {ss ts : List Nat} (h : KeysOf D0 ss) (hp : ts.Perm ss) : KeysOf D0 ts :=
  ⟨⟨hp.nodup_iff.2 h.1.1, fun x => by rw [hp.mem_iff]; exact h.1.2 x⟩, by rw [hp.length_eq]; exact h.2⟩
theorem sorted_any {N : Nat} (hsort : SortOk N) {H : Type} (Bm b nn : Nat) (D0 : DataW H) {R : Value → Option (DataW H × List MemPlace)} (w : World) (hBm : Bm < w.heap.size) (hm : w.cell? ⟨Bm, 0, none⟩ = some (.map (some b))) (hown : w.ownsMap Try.prog 22 R b nn D0) (hsz : Maps.size D0 ≤ 1000000) (hN : Maps.size D0 ≤ N) :
    Calls Try.prog 47 #[.func (.func 58) #[] #[.pointer (some ⟨Bm, 0, none⟩)]] w (SortedRet D0 w) := by
  have hc := Lib.hid (collect_any Bm b nn D0 w hBm hm hown hsz)
  replace hsort := Lib.hid hsort
  clear hm hown
  go_enter Try.func47, Try.ntmps47
  go_wp2_with fail
  refine hc.out.mono ?_
  rintro e w1 ⟨v, ss, rfl, h1, h2, h3⟩
  have hs := Lib.hid (hsort.out w1 w.heap.size v ss (Nat.le_trans h1.out.2 hN) h3.out.size h2.out)
  clear hc
  go_wp2_with fail
  refine hs.out.mono ?_
  rintro e w2 ⟨rfl, ts, g1, g2, g3⟩
  have hk := Lib.hid (And.intro (h1.out.perm g2.out.1) g2.out.2)
  have hb := Lib.hid (h3.out.trans g3.out)
  clear hs
  go_wp2_with fail
  go_ret
  exact ⟨v, ts, rfl, hk, g1, hb⟩
end Go.Proofs.Ytcnebfmlelcliaa
namespace Go.Proofs.Ytcnebfmlelcliaa
open Go.RowKit

/-- block g is a row of the numbers l, and what lies behind -/
def Row (W : World) (g : Nat) (l : List Nat) (rest : List Value) : Prop := W.heap[g]? = some (.cells (l.map encU ++ rest).toArray 22 (0, 0))
theorem Row.cell {W : World} {g : Nat} {l : List Nat} {rest : List Value} (h : Row W g l rest) (j : Nat) (hj : j < l.length) : W.cell? ⟨g, j, none⟩ = some (.int .u64 (l[j] : Nat)) := by
  rw [cell_at h j]
  simp only [List.getElem?_toArray]
  rw [List.getElem?_append_left (by simpa using hj), List.getElem?_map, List.getElem?_eq_getElem hj]
  rfl
theorem Row.free {W : World} {g : Nat} {l : List Nat} {rest : List Value} (h : Row W g l rest) (j : Nat) : W.frozen? ⟨g, j, none⟩ = false := by
  simp [World.frozen?, show W.heap[g]? = _ from h]
theorem Row.set {W : World} {g : Nat} {l : List Nat} {rest : List Value} (h : Row W g l rest) (j : Nat) (hj : j < l.length) (x : Nat) : Row (W.setCell ⟨g, j, none⟩ (.int .u64 x)) g (l.set j x) rest := by
  have h0 : W.heap[g]? = _ := h
  unfold Row
  simp only [World.setCell, Array.getElem?_modify, h0, if_true, Option.map_some]
  have e : (l.map encU ++ rest).toArray.setIfInBounds j (.int .u64 x) = ((l.set j x).map encU ++ rest).toArray := by
    rw [List.setIfInBounds_toArray, List.set_append_left _ _ (by simpa using hj), List.map_set]
    rfl
  rw [← e]
  rfl
theorem Row.drew {W : World} {g : Nat} {l : List Nat} {rest : List Value} (h : Row W g l rest) : Row W.drew g l rest := h
theorem Row.drewN {W : World} {g : Nat} {l : List Nat} {rest : List Value} (h : Row W g l rest) (n : Nat) : Row (W.drewN n) g l rest := h
/-- all that lay in W0 lies as it lay, but for block g -/
def Kept1 (W0 : World) (g : Nat) (W : World) : Prop := W.os = W0.os ∧ W.tape = W0.tape ∧ W.output = W0.output ∧ W0.heap.size ≤ W.heap.size ∧ ∀ k, k < W0.heap.size → k ≠ g → W.heap[k]? = W0.heap[k]?
theorem Kept1.refl (W : World) (g : Nat) : Kept1 W g W := ⟨rfl, rfl, rfl, Nat.le_refl _, fun _ _ _ => rfl⟩
theorem Kept1.trans {W0 W W2 : World} {g : Nat} (h : Kept1 W0 g W) (k : Kept1 W g W2) : Kept1 W0 g W2 :=
  ⟨k.1.trans h.1, k.2.1.trans h.2.1, k.2.2.1.trans h.2.2.1, Nat.le_trans h.2.2.2.1 k.2.2.2.1, fun x hx h1 => (k.2.2.2.2 x (Nat.lt_of_lt_of_le hx h.2.2.2.1) h1).trans (h.2.2.2.2 x hx h1)⟩
theorem Kept1.set {W0 W : World} {g : Nat} (h : Kept1 W0 g W) (j : Nat) (v : Value) : Kept1 W0 g (W.setCell ⟨g, j, none⟩ v) :=
  ⟨h.1, h.2.1, h.2.2.1, by have := h.2.2.2.1; simpa using this, fun k hk h1 => by
    rw [heap_setCell_other W ⟨g, j, none⟩ k v h1]
    exact h.2.2.2.2 k hk h1⟩
theorem Kept1.drewN {W0 W : World} {g : Nat} (h : Kept1 W0 g W) (n : Nat) : Kept1 W0 g (W.drewN n) := ⟨h.1, h.2.1, h.2.2.1, h.2.2.2.1, h.2.2.2.2⟩
/-- the number at place i -/
def at_ (l : List Nat) (i : Nat) : Nat := l.getD i 0
def swp (l : List Nat) (i j : Nat) : List Nat := (l.set i (at_ l j)).set j (at_ l i)
theorem swp_len (l : List Nat) (i j : Nat) : (swp l i j).length = l.length := by simp [swp]
theorem at_lt {l : List Nat} {i : Nat} (h : i < l.length) : at_ l i = l[i] := by simp [at_, List.getD, h]
theorem swp_at (l : List Nat) (i j k : Nat) (hi : i < l.length) (hj : j < l.length) : at_ (swp l i j) k = if k = j then at_ l i else if k = i then at_ l j else at_ l k := by
  unfold swp at_
  simp only [List.getD_eq_getElem?_getD, List.getElem?_set, List.length_set]
  by_cases h1 : j = k
  · subst h1; simp [hj]
  · have h1' : ¬ k = j := fun e => h1 e.symm
    by_cases h2 : i = k
    · subst h2; simp [h1, h1', hi]
    · have h2' : ¬ k = i := fun e => h2 e.symm
      simp [h1, h1', h2, h2']
theorem swp_perm (l : List Nat) (i j : Nat) (hi : i < l.length) (hj : j < l.length) : (swp l i j).Perm l := by
  have h := Array.swap_perm (xs := l.toArray) (i := i) (j := j) (by simpa using hi) (by simpa using hj)
  have h2 := h.toList
  have e : (l.toArray.swap i j (by simpa using hi) (by simpa using hj)).toList = swp l i j := by
    unfold swp
    rw [at_lt hi, at_lt hj]
    simp [Array.swap]
  rw [e] at h2
  exact h2
/-- l' is l with places from a to b turned about, and no other -/
def Turned (a b : Nat) (l l' : List Nat) : Prop := l'.Perm l ∧ ∀ p, p < a ∨ b ≤ p → at_ l' p = at_ l p
theorem Turned.refl (a b : Nat) (l : List Nat) : Turned a b l l := ⟨List.Perm.refl _, fun _ _ => rfl⟩
theorem Turned.trans {a b : Nat} {l m k : List Nat} (h : Turned a b l m) (h2 : Turned a b m k) : Turned a b l k := ⟨h2.1.trans h.1, fun p hp => (h2.2 p hp).trans (h.2 p hp)⟩
theorem Turned.len {a b : Nat} {l m : List Nat} (h : Turned a b l m) : m.length = l.length := h.1.length_eq
theorem Turned.swp {a b : Nat} (l : List Nat) (i j : Nat) (hi : a ≤ i ∧ i < b) (hj : a ≤ j ∧ j < b) (hb : b ≤ l.length) : Turned a b l (swp l i j) :=
  ⟨swp_perm l i j (by omega) (by omega), fun p hp => by rw [swp_at l i j p (by omega) (by omega), if_neg (by omega), if_neg (by omega)]⟩
def SortedOn (l : List Nat) (a b : Nat) : Prop := ∀ p q, a ≤ p → p < q → q < b → at_ l p ≤ at_ l q
/-- sorted from a to i, but for the place j, to which all behind it is greater -/
def Hole (l : List Nat) (a i j : Nat) : Prop := (∀ p q, a ≤ p → p < q → q ≤ i → p ≠ j → q ≠ j → at_ l p ≤ at_ l q) ∧ ∀ q, j < q → q ≤ i → at_ l j ≤ at_ l q
theorem Hole.start {l : List Nat} {a i : Nat} (h : SortedOn l a i) : Hole l a i i := ⟨fun p q h1 h2 h3 h4 h5 => h p q h1 h2 (by omega), fun q h1 h2 => by omega⟩
theorem Hole.step {l : List Nat} {a i j : Nat} (h : Hole l a i j) (hj : a < j) (hji : j ≤ i) (hi : i < l.length) (hlt : at_ l j < at_ l (j - 1)) : Hole (swp l j (j - 1)) a i (j - 1) := by
  have e := fun k => swp_at l j (j - 1) k (by omega) (by omega)
  refine ⟨fun p q h1 h2 h3 h4 h5 => ?_, fun q h1 h2 => ?_⟩
  · rw [e p, e q, if_neg h4, if_neg h5]
    by_cases hp : p = j
    · rw [if_pos hp, if_neg (by omega)]
      exact h.1 (j - 1) q (by omega) (by omega) h3 (by omega) (by omega)
    · rw [if_neg hp]
      by_cases hq : q = j
      · rw [if_pos hq]
        exact h.1 p (j - 1) h1 (by omega) (by omega) hp (by omega)
      · rw [if_neg hq]
        exact h.1 p q h1 h2 h3 hp hq
  · rw [e (j - 1), e q, if_pos rfl, if_neg (by omega)]
    by_cases hq : q = j
    · rw [if_pos hq]; omega
    · rw [if_neg hq]; exact h.2 q (by omega) h2
theorem Hole.done {l : List Nat} {a i j : Nat} (h : Hole l a i j) (hj : j = a ∨ (a < j ∧ ¬ at_ l j < at_ l (j - 1))) (haj : a ≤ j) : SortedOn l a (i + 1) := by
  intro p q h1 h2 h3
  by_cases hp : p = j
  · subst hp; exact h.2 q h2 (by omega)
  · by_cases hq : q = j
    · subst hq
      rcases hj with rfl | ⟨hj1, hj2⟩
      · omega
      · by_cases hp2 : p = q - 1
        · subst hp2; omega
        · have := h.1 p (q - 1) h1 (by omega) (by omega) hp (by omega)
          omega
    · exact h.1 p q h1 h2 (by omega) hp hq
end Go.Proofs.Ytcnebfmlelcliaa
