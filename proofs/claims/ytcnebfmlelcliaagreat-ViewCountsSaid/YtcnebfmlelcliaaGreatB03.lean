/- mail.clone: walked. IndexFunc with mail's closures: walked. mail.home, opened, seat, at, Find: walked. Rows of which the end is cleared. -/
import Derived.Test.YtcnebfmlelcliaaGreatB02
import Derived.Laws.EntriesVeiled
import Derived.Lib.SliceRun
namespace Go.Proofs.YtcnebfmlelcliaaGreat
set_option linter.unusedSimpArgs false
open Go.RowKit
attribute [local go_sem ↓] Go.wp_at_zero Go.wp_at_succ

/-- the letters' rows of mailboxes -/
def letsL (bs : List BxV) : List Th := bs.map fun y => ltT.row y.v y.rows
/-- the parts of a state in memory of its own -/
def stateL (vb vh vs : Value) (bs : List BxV) (hs : List Hm) (ss : List St) (S : List (Value × List (List UInt8))) : List Th :=
  bxT.row vb bs :: hmT.row vh hs :: stT.row vs ss :: flagsT S :: letsL bs
structure Sized1 (m : Ml) : Prop where
  boxes : m.boxes.length ≤ 1000
  homes : m.homes.length ≤ 1000
  seats : m.seats.length ≤ 1000
  letters : ∀ b ∈ m.boxes, b.letters.length ≤ 10000
  flags : ∀ b ∈ m.boxes, ∀ x ∈ b.letters, x.flags.length ≤ 10000
def CloneRet (W : World) (m : Ml) (e : Ending) (w' : World) : Prop := ∃ (vb vh vs : Value) (bs : List BxV) (S : List (Value × List (List UInt8))), e = .returned (mlVal vb m.nv vh vs m.ns m.sweeps) ∧ Hid (bs.map BxV.b = m.boxes ∧ HasB S bs) ∧ Hid (Zoo W w' (stateL vb vh vs bs m.homes m.seats S))
theorem stateL_box {W0 W : World} {vb vh vs : Value} {bs : List BxV} {hs : List Hm} {ss : List St} {S : List (Value × List (List UInt8))} (h : Zoo W0 W (stateL vb vh vs bs hs ss S)) (hh : HasB S bs) : BxsIn W vb bs := by
  refine ⟨(h.own 0 rfl).rd, fun y hy => ?_⟩
  obtain ⟨i, hi, e⟩ := List.mem_iff_getElem.1 hy
  have h1 : (stateL vb vh vs bs hs ss S)[i + 4]? = some (ltT.row y.v y.rows) := by
    show (letsL bs)[i]? = _
    unfold letsL
    rw [List.getElem?_map, List.getElem?_eq_getElem hi, e]; rfl
  exact ⟨(h.own (i + 4) h1).rd, h.ltsOk 3 rfl (hh y hy)⟩
theorem stateL_in {W0 W : World} {vb vh vs : Value} {bs : List BxV} {m : Ml} {S : List (Value × List (List UInt8))} (h : Zoo W0 W (stateL vb vh vs bs m.homes m.seats S)) (hh : HasB S bs) (hb : bs.map BxV.b = m.boxes) : MlIn W (mlVal vb m.nv vh vs m.ns m.sweeps) m :=
  ⟨vb, vh, vs, bs, rfl, hb, stateL_box h hh, (h.own 1 rfl).rd, (h.own 2 rfl).rd⟩
theorem clone_step {W0 W : World} {A B C D E R : Th} {S S' : List (Value × List (List UInt8))} {lets : List Th} (h : Zoo W0 W (R :: flagsT S' :: A :: B :: C :: D :: E :: flagsT S :: lets)) : Zoo W0 W (A :: B :: C :: D :: E :: flagsT (S' ++ S) :: (lets ++ [R])) := by
  have p1 : (R :: flagsT S' :: A :: B :: C :: D :: E :: flagsT S :: lets).Perm (flagsT S' :: flagsT S :: A :: B :: C :: D :: E :: (lets ++ [R])) := by
    refine (List.perm_append_singleton R (flagsT S' :: A :: B :: C :: D :: E :: flagsT S :: lets)).symm.trans ?_
    exact List.Perm.cons _ (List.perm_middle (l₁ := [A, B, C, D, E]))
  have h2 := flags_merge (h.perm p1)
  exact h2.perm (List.perm_middle (l₁ := [A, B, C, D, E]) (a := flagsT (S' ++ S)) (l₂ := lets ++ [R])).symm
def ml0 : List Value := [.slice none 0 0, .int .u64 0, .slice none 0 0, .slice none 0 0, .int .u64 0, .int .u64 0]
set_option maxRecDepth 100000 in
set_option maxHeartbeats 8000000 in
theorem clone_any (v : Value) (m : Ml) (W : World) (hin : MlIn W v m) (hs : Sized1 m) :
    Calls Tryz.prog 45 #[v] W (CloneRet W m) := by
  obtain ⟨vb, vh, vs, bs, rfl, hbs, hib, hih, his⟩ := hin
  have hlb : bs.length = m.boxes.length := by rw [← hbs, List.length_map]
  have hib0 := Lib.hid (fun (W' : World) (h : Below W.heap.size W W') => hib.below h)
  have hih0 := Lib.hid (fun (W' : World) (h : Below W.heap.size W W') => (Rd.below hih h : HmsIn W' vh m.homes))
  have his0 := Lib.hid (fun (W' : World) (h : Below W.heap.size W W') => (Rd.below his h : StsIn W' vs m.seats))
  have hz1 := ((Zoo.nil W).newBox [vb, .int .u64 m.nv, vh, vs, .int .u64 m.ns, .int .u64 m.sweeps].toArray 27).newBox ml0.toArray 27
  have hs1 : (W.alloc (.cells [vb, .int .u64 m.nv, vh, vs, .int .u64 m.ns, .int .u64 m.sweeps].toArray 27)).heap.size = W.heap.size + 1 := by simp
  rw [hs1] at hz1
  have hc := cloneSt_any (his0.out _ hz1.bel) (by have := hs.seats; omega)
  unfold ml0 at hz1 hc
  replace hz1 := Lib.hid hz1
  replace hc := Lib.hid hc
  obtain ⟨ab, cb, rfl, -⟩ := hib.1
  obtain ⟨ah, ch, rfl, -⟩ := hih
  obtain ⟨as_, cs, rfl, -⟩ := his
  have hlb2 : bs.length ≤ 1000 := by rw [hlb]; exact hs.boxes
  replace hlb := Lib.hid hlb
  replace hbs := Lib.hid hbs
  replace hs := Lib.hid hs
  clear hib hs1
  unfold mlVal
  go_enter Tryz.func45, Tryz.ntmps45
  go_wp2_with fail
  refine hc.out.mono ?_
  rintro e w2 ⟨v2, rfl, ho2, hb2, hf2⟩
  obtain ⟨a2, c2, rfl⟩ := ho2.out.len
  have hz2 := hz1.out.newRow hb2.out ho2.out hf2.out
  obtain ⟨hbx, -⟩ := hz2.box 2 rfl
  have k3 : w2.cell? ⟨W.heap.size, 3, none⟩ = some (.slice as_ m.seats.length cs) := box_cell hbx 3
  have k2 : w2.cell? ⟨W.heap.size, 2, none⟩ = some (.slice ah m.homes.length ch) := box_cell hbx 2
  have f2 := box_free hbx
  have hz3 := hz2.setBox 2 rfl 3 (.slice a2 m.seats.length c2)
  replace hz3 : Zoo W (w2.setCell ⟨W.heap.size, 3, none⟩ (.slice a2 m.seats.length c2)) [stT.row (.slice a2 m.seats.length c2) m.seats, boxT (W.heap.size + 1) [.slice none 0 0, .int .u64 0, .slice none 0 0, .slice none 0 0, .int .u64 0, .int .u64 0].toArray 27, boxT W.heap.size [.slice ab bs.length cb, .int .u64 m.nv, .slice ah m.homes.length ch, .slice a2 m.seats.length c2, .int .u64 m.ns, .int .u64 m.sweeps].toArray 27] := hz3
  have hc3 := Lib.hid (cloneHm_any (hih0.out _ hz3.bel) (by have := hs.out.homes; omega))
  replace hz3 := Lib.hid hz3
  clear hc hz1 hz2 ho2 hb2 hf2 hbx
  go_wp2_with fail
  refine hc3.out.mono ?_
  rintro e w3 ⟨v3, rfl, ho3, hb3, hf3⟩
  obtain ⟨a3, c3, rfl⟩ := ho3.out.len
  have hz4 := hz3.out.newRow hb3.out ho3.out hf3.out
  obtain ⟨hbx, -⟩ := hz4.box 3 rfl
  have k2 : w3.cell? ⟨W.heap.size, 2, none⟩ = some (.slice ah m.homes.length ch) := box_cell hbx 2
  have k0 : w3.cell? ⟨W.heap.size, 0, none⟩ = some (.slice ab bs.length cb) := box_cell hbx 0
  have f2 := box_free hbx
  have hz5 := hz4.setBox 3 rfl 2 (.slice a3 m.homes.length c3)
  replace hz5 : Zoo W (w3.setCell ⟨W.heap.size, 2, none⟩ (.slice a3 m.homes.length c3)) [hmT.row (.slice a3 m.homes.length c3) m.homes, stT.row (.slice a2 m.seats.length c2) m.seats, boxT (W.heap.size + 1) [.slice none 0 0, .int .u64 0, .slice none 0 0, .slice none 0 0, .int .u64 0, .int .u64 0].toArray 27, boxT W.heap.size [.slice ab bs.length cb, .int .u64 m.nv, .slice a3 m.homes.length c3, .slice a2 m.seats.length c2, .int .u64 m.ns, .int .u64 m.sweeps].toArray 27] := hz5
  have hc4 := Lib.hid (cloneBx_any (hib0.out _ hz5.bel).1 (by rw [hlb.out]; have := hs.out.boxes; omega))
  replace hz5 := Lib.hid hz5
  clear hc3 hz3 hz4 ho3 hb3 hf3 hbx k3
  go_wp2_with fail
  refine hc4.out.mono ?_
  rintro e w4 ⟨v4, rfl, ho4, hb4, hf4⟩
  obtain ⟨a4, c4, rfl⟩ := ho4.out.len
  have hz6 := hz5.out.newRow hb4.out ho4.out hf4.out
  obtain ⟨hbx, -⟩ := hz6.box 4 rfl
  have k0 : w4.cell? ⟨W.heap.size, 0, none⟩ = some (.slice ab bs.length cb) := box_cell hbx 0
  have f2 := box_free hbx
  have hz7 := hz6.setBox 4 rfl 0 (.slice a4 bs.length c4)
  replace hz7 : Zoo W (w4.setCell ⟨W.heap.size, 0, none⟩ (.slice a4 bs.length c4)) [bxT.row (.slice a4 bs.length c4) bs, hmT.row (.slice a3 m.homes.length c3) m.homes, stT.row (.slice a2 m.seats.length c2) m.seats, boxT (W.heap.size + 1) [.slice none 0 0, .int .u64 0, .slice none 0 0, .slice none 0 0, .int .u64 0, .int .u64 0].toArray 27, boxT W.heap.size [.slice a4 bs.length c4, .int .u64 m.nv, .slice a3 m.homes.length c3, .slice a2 m.seats.length c2, .int .u64 m.ns, .int .u64 m.sweeps].toArray 27] := hz7
  replace hz7 := Lib.hid hz7
  clear hc4 hz5 hz6 ho4 hb4 hf4 hbx k2
  go_wp2_with fail
  have hz8 := Lib.hid ((flags_nil hz7.out).perm (List.perm_append_singleton _ _).symm)
  clear hz7 k0 f2
  generalize hB1 : W.heap.size = B1 at hz8 ⊢
  replace hB1 := Lib.hid hB1
  go_loopw [19] (fun v19 wr => ∃ (k : Nat) (done : List BxV) (S : List (Value × List (List UInt8))), v19 = .int .i64 k ∧ k ≤ bs.length ∧ Hid (done.length = k ∧ done.map BxV.b = (bs.take k).map BxV.b ∧ HasB S done) ∧ Hid (Zoo W wr (bxT.row (.slice a4 bs.length c4) (done ++ bs.drop k) :: hmT.row (.slice a3 m.homes.length c3) m.homes :: stT.row (.slice a2 m.seats.length c2) m.seats :: boxT (B1 + 1) [.slice none 0 0, .int .u64 0, .slice none 0 0, .slice none 0 0, .int .u64 0, .int .u64 0].toArray 27 :: boxT B1 [.slice a4 bs.length c4, .int .u64 m.nv, .slice a3 m.homes.length c3, .slice a2 m.seats.length c2, .int .u64 m.ns, .int .u64 m.sweeps].toArray 27 :: flagsT S :: letsL done))) (fun v19 _ => bs.length - (intOf v19).toNat)
  case atStart => exact ⟨0, [], [], rfl, Nat.zero_le _, Lib.hid ⟨rfl, rfl, fun y hy => by simp at hy⟩, hz8⟩
  case round =>
    clear hz8
    obtain ⟨k, done, S, rfl, hk, hd, hz⟩ := hrel
    have hlen : (done ++ bs.drop k).length = bs.length := by rw [List.length_append, hd.out.1, List.length_drop]; omega
    by_cases hlt : k < bs.length
    · have hl1 : (k : Int) < (bs.length : Int) := by omega
      have hget : (done ++ bs.drop k)[k]'(by omega) = bs[k] := by
        rw [List.getElem_append_right (by rw [hd.out.1]; exact Nat.le_refl _), List.getElem_drop]
        congr 1
        rw [hd.out.1]; omega
      obtain ⟨y, hy⟩ : ∃ y, bs[k] = y := ⟨_, rfl⟩
      have hym : y ∈ bs := by rw [← hy]; exact List.getElem_mem hlt
      obtain ⟨hbx, -⟩ := hz.out.box 4 rfl
      have c4' : wr.cell? ⟨B1, 0, none⟩ = some (.slice a4 bs.length c4) := box_cell hbx 0
      obtain ⟨g, cap, hv, hcap, hg, hcells⟩ := (hz.out.own 0 rfl).cells (j := k) (by omega)
      rw [hlen] at hv hcap
      injection hv with e1 e2 e3
      subst e1 e3
      have r0 := hcells 0 (by decide)
      have r1 := hcells 1 (by decide)
      have r2 := hcells 2 (by decide)
      have r3 := hcells 3 (by decide)
      have r4 := hcells 4 (by decide)
      rw [hget, hy] at r0 r1 r2 r3 r4
      replace r0 : wr.cell? ⟨g, k * 5, none⟩ = some (.string y.name) := r0
      replace r1 : wr.cell? ⟨g, k * 5 + 1, none⟩ = some (.int .u64 y.validity) := r1
      replace r2 : wr.cell? ⟨g, k * 5 + 2, none⟩ = some (.int .u64 y.next) := r2
      replace r3 : wr.cell? ⟨g, k * 5 + 3, none⟩ = some (.int .u64 y.high) := r3
      replace r4 : wr.cell? ⟨g, k * 5 + 4, none⟩ = some (.slice y.a y.rows.length y.c) := r4
      have hsz : y.b ∈ m.boxes := by rw [← hbs.out]; exact List.mem_map_of_mem hym
      have hln := hs.out.letters _ hsz
      have hfln := hs.out.flags _ hsz
      have hc := cloneBox_any y wr.drew ((hib0.out wr.drew hz.out.drew.bel).2 y hym) (by have : y.b.letters.length = y.rows.length := List.length_map ..; omega) (fun z hz => by have := hfln z.x (List.mem_map_of_mem hz); omega)
      unfold bxAgg bxCells BxV.v at hc
      replace hc := Lib.hid hc
      have hB1lt := World.block_lt_of_cell? _ _ c4'
      dsimp only at hB1lt
      clear hcells hbx hsz hln hfln
      replace hy := Lib.hid hy
      replace hget := Lib.hid hget
      replace hlen := Lib.hid hlen
      go_wp2_with fail
      refine wp_region_hd (fun w' => w'.cell? ⟨B1, 0, none⟩ = some (.slice (some ⟨g, 0, none⟩) bs.length c4) ∧ w'.cell? ⟨g, k * 5, none⟩ = some (.string y.name) ∧ w'.cell? ⟨g, k * 5 + 1, none⟩ = some (.int .u64 y.validity) ∧ w'.cell? ⟨g, k * 5 + 2, none⟩ = some (.int .u64 y.next) ∧ w'.cell? ⟨g, k * 5 + 3, none⟩ = some (.int .u64 y.high) ∧ w'.cell? ⟨g, k * 5 + 4, none⟩ = some (.slice y.a y.rows.length y.c)) 9 2 (by kernel_rfl) rfl ⟨by kernel_rfl, by kernel_rfl, by kernel_rfl, by decide⟩ ⟨c4', r0, r1, r2, r3, r4⟩ (fun hok hS0 => ?_)
      refine Hd.take (i := 0) (v := ?tv10) hok rfl (by kernel_rfl) (fun _ _ _ h => h) (Or.inl ⟨by rfl, ?ty10⟩) (by assumption) ?tr10
      case ty10 => (intro w hSw; (try dsimp only at hSw); go_simp; (try with_reducible rfl))
      try simp only [List.getElem_toArray, List.getElem_cons_succ, List.getElem_cons_zero, Act.put, List.setIfInBounds_toArray, List.set_cons_zero, List.set_cons_succ]
      refine Hd.take (i := 1) (v := ?tv11) hok rfl (by kernel_rfl) (fun _ _ _ h => h) (Or.inl ⟨by rfl, ?ty11⟩) (by assumption) ?tr11
      case ty11 => (intro w hSw; (try dsimp only at hSw); go_simp; (try with_reducible rfl))
      try simp only [List.getElem_toArray, List.getElem_cons_succ, List.getElem_cons_zero, Act.put, List.setIfInBounds_toArray, List.set_cons_zero, List.set_cons_succ]
      refine Hd.take (i := 2) (v := ?tv12) hok rfl (by kernel_rfl) (fun _ _ _ h => h) (Or.inl ⟨by rfl, ?ty12⟩) (by assumption) ?tr12
      case ty12 => (intro w hSw; (try dsimp only at hSw); go_simp; (try with_reducible rfl))
      try simp only [List.getElem_toArray, List.getElem_cons_succ, List.getElem_cons_zero, Act.put, List.setIfInBounds_toArray, List.set_cons_zero, List.set_cons_succ]
      refine Hd.take (i := 3) (v := ?tv13) hok rfl (by kernel_rfl) (fun _ _ _ h => h) (Or.inl ⟨by rfl, ?ty13⟩) (by assumption) ?tr13
      case ty13 => (intro w hSw; (try dsimp only at hSw); go_simp; (try with_reducible rfl))
      try simp only [List.getElem_toArray, List.getElem_cons_succ, List.getElem_cons_zero, Act.put, List.setIfInBounds_toArray, List.set_cons_zero, List.set_cons_succ]
      refine Hd.take (i := 4) (v := ?tv14) hok rfl (by kernel_rfl) (fun _ _ _ h => h) (Or.inl ⟨by rfl, ?ty14⟩) (by assumption) ?tr14
      case ty14 => (intro w hSw; (try dsimp only at hSw); go_simp; (try with_reducible rfl))
      try simp only [List.getElem_toArray, List.getElem_cons_succ, List.getElem_cons_zero, Act.put, List.setIfInBounds_toArray, List.set_cons_zero, List.set_cons_succ]
      refine Hd.take (i := 5) (v := ?tv15) hok rfl (by kernel_rfl) (fun _ _ _ h => h) (Or.inl ⟨by rfl, ?ty15⟩) (by assumption) ?tr15
      case ty15 => (intro w hSw; (try dsimp only at hSw); go_simp; (try with_reducible rfl))
      try simp only [List.getElem_toArray, List.getElem_cons_succ, List.getElem_cons_zero, Act.put, List.setIfInBounds_toArray, List.set_cons_zero, List.set_cons_succ]
      refine Hd.take (i := 6) (v := ?tv16) hok rfl (by kernel_rfl) (fun _ _ _ h => h) (Or.inl ⟨by rfl, ?ty16⟩) (by assumption) ?tr16
      case ty16 => (intro w hSw; (try dsimp only at hSw); go_simp; (try with_reducible rfl))
      try simp only [List.getElem_toArray, List.getElem_cons_succ, List.getElem_cons_zero, Act.put, List.setIfInBounds_toArray, List.set_cons_zero, List.set_cons_succ]
      refine Hd.take (i := 7) (v := ?tv17) hok rfl (by kernel_rfl) (fun _ _ _ h => h) (Or.inl ⟨by rfl, ?ty17⟩) (by assumption) ?tr17
      case ty17 => (intro w hSw; (try dsimp only at hSw); go_simp; (try with_reducible rfl))
      try simp only [List.getElem_toArray, List.getElem_cons_succ, List.getElem_cons_zero, Act.put, List.setIfInBounds_toArray, List.set_cons_zero, List.set_cons_succ]
      refine Hd.one (i := 8) rfl (by kernel_rfl) (fun K hK => ?_)
      go_simp
      refine hc.out.mono ?_
      rintro e w3 ⟨z, S2, he, hzb, hz3⟩
      unfold bxAgg bxCells BxV.v at he
      subst he
      dsimp only
      have hb3 := hz3.out.bel
      have kc : ∀ j u, wr.cell? ⟨g, j, none⟩ = some u → w3.cell? ⟨g, j, none⟩ = some u := fun j u h => (hb3.cell (p := ⟨g, j, none⟩) hg).trans h
      refine hK _ _ ⟨(hb3.cell (p := ⟨B1, 0, none⟩) hB1lt).trans c4', kc _ _ r0, kc _ _ r1, kc _ _ r2, kc _ _ r3, kc _ _ r4⟩ ?_
      clear hK K
      try simp only [List.getElem_toArray, List.getElem_cons_succ, List.getElem_cons_zero, Act.put, List.setIfInBounds_toArray, List.set_cons_zero, List.set_cons_succ]
      refine Hd.done (by kernel_rfl) ?_
      simp only [List.drop_succ_cons, List.drop_zero]
      have hz5 := clone_step (hz.out.drew.join hz3.out)
      obtain ⟨g', cap', hv, -, -, hcl, hfr, hz6⟩ := hz5.put5 0 rfl rfl k (by rw [hlen.out]; exact hlt) z (.string z.name) (.int .u64 z.validity) (.int .u64 z.next) (.int .u64 z.high) (.slice z.a z.rows.length z.c) rfl
      rw [hlen.out] at hv
      injection hv with e1 e2 e3
      injection e1 with e1
      injection e1 with e1
      subst e1
      have f0 := hfr (k * 5)
      have f1 := hfr (k * 5 + 1)
      have f2 := hfr (k * 5 + 2)
      have f3 := hfr (k * 5 + 3)
      have f4 := hfr (k * 5 + 4)
      replace r0 := kc _ _ r0
      replace r1 := kc _ _ r1
      replace r2 := kc _ _ r2
      replace r3 := kc _ _ r3
      replace r4 := kc _ _ r4
      have hd2 : Hid ((done ++ [z]).length = k + 1 ∧ (done ++ [z]).map BxV.b = (bs.take (k + 1)).map BxV.b ∧ HasB (S2 ++ S) (done ++ [z])) := Lib.hid (by
        refine ⟨by rw [List.length_append, hd.out.1]; rfl, ?_, fun q hq p hp => ?_⟩
        · rw [List.take_succ_eq_append_getElem hlt, List.map_append, List.map_append, hd.out.2.1, hy.out, List.map_singleton, List.map_singleton, hzb.out.1]
        · rcases List.mem_append.1 hq with hq | hq
          · exact List.mem_append_right _ (hd.out.2.2 q hq p hp)
          · simp only [List.mem_singleton] at hq
            subst hq
            exact List.mem_append_left _ (hzb.out.2 p hp))
      have hst : (done ++ bs.drop k).set k z = (done ++ [z]) ++ bs.drop (k + 1) := by
        rw [List.set_append_right _ _ (by rw [hd.out.1]; exact Nat.le_refl _), hd.out.1, Nat.sub_self, List.drop_eq_getElem_cons hlt, List.append_assoc]; rfl
      have hll : letsL (done ++ [z]) = letsL done ++ [ltT.row z.v z.rows] := List.map_append ..
      have hz7 : Hid (Zoo W (((((w3.setCell ⟨g, k * 5, none⟩ (.string z.name)).setCell ⟨g, k * 5 + 1, none⟩ (.int .u64 z.validity)).setCell ⟨g, k * 5 + 2, none⟩ (.int .u64 z.next)).setCell ⟨g, k * 5 + 3, none⟩ (.int .u64 z.high)).setCell ⟨g, k * 5 + 4, none⟩ (.slice z.a z.rows.length z.c)) (bxT.row (.slice (some ⟨g, 0, none⟩) bs.length c4) ((done ++ [z]) ++ bs.drop (k + 1)) :: hmT.row (.slice a3 m.homes.length c3) m.homes :: stT.row (.slice a2 m.seats.length c2) m.seats :: boxT (B1 + 1) [.slice none 0 0, .int .u64 0, .slice none 0 0, .slice none 0 0, .int .u64 0, .int .u64 0].toArray 27 :: boxT B1 [.slice (some ⟨g, 0, none⟩) bs.length c4, .int .u64 m.nv, .slice a3 m.homes.length c3, .slice a2 m.seats.length c2, .int .u64 m.ns, .int .u64 m.sweeps].toArray 27 :: flagsT (S2 ++ S) :: letsL (done ++ [z]))) := Lib.hid (by rw [hll, ← hst]; exact hz6)
      clear hz hz5 hz6 hfr hst hll hc hz3 hb3 hok hS0 c4' hd hy hget hlen hcl kc hzb hB1lt hg
      go_wp2_with fail
      go_roundw
      case rel => exact ⟨k + 1, _, _, by go_num, by omega, hd2, hz7⟩
      case measure => simp [intOf] <;> omega
    · have hl1 : (bs.length : Int) ≤ (k : Int) := by omega
      obtain rfl : k = bs.length := by omega
      obtain ⟨hbx, -⟩ := hz.out.box 4 rfl
      obtain ⟨hby, -⟩ := hz.out.box 3 rfl
      have c0 : wr.cell? ⟨B1, 0, none⟩ = some (.slice a4 bs.length c4) := box_cell hbx 0
      have c1 : wr.cell? ⟨B1, 1, none⟩ = some (.int .u64 m.nv) := box_cell hbx 1
      have c2' : wr.cell? ⟨B1, 2, none⟩ = some (.slice a3 m.homes.length c3) := box_cell hbx 2
      have c3' : wr.cell? ⟨B1, 3, none⟩ = some (.slice a2 m.seats.length c2) := box_cell hbx 3
      have c4' : wr.cell? ⟨B1, 4, none⟩ = some (.int .u64 m.ns) := box_cell hbx 4
      have c5' : wr.cell? ⟨B1, 5, none⟩ = some (.int .u64 m.sweeps) := box_cell hbx 5
      have d0 : wr.cell? ⟨B1 + 1, 0, none⟩ = some (.slice none 0 0) := box_cell hby 0
      have d1 : wr.cell? ⟨B1 + 1, 1, none⟩ = some (.int .u64 0) := box_cell hby 1
      have d2 : wr.cell? ⟨B1 + 1, 2, none⟩ = some (.slice none 0 0) := box_cell hby 2
      have d3 : wr.cell? ⟨B1 + 1, 3, none⟩ = some (.slice none 0 0) := box_cell hby 3
      have d4 : wr.cell? ⟨B1 + 1, 4, none⟩ = some (.int .u64 0) := box_cell hby 4
      have d5 : wr.cell? ⟨B1 + 1, 5, none⟩ = some (.int .u64 0) := box_cell hby 5
      have f0 := box_free hby
      have hz5 := (((((hz.out.setBox 3 rfl 0 (.slice a4 bs.length c4)).setBox 3 rfl 1 (.int .u64 m.nv)).setBox 3 rfl 2 (.slice a3 m.homes.length c3)).setBox 3 rfl 3 (.slice a2 m.seats.length c2)).setBox 3 rfl 4 (.int .u64 m.ns)).setBox 3 rfl 5 (.int .u64 m.sweeps)
      obtain ⟨hbz, -⟩ := hz5.box 3 rfl
      rw [List.drop_length, List.append_nil] at hz5
      have hz6 := Lib.hid (hz5.sub (L' := stateL (.slice a4 bs.length c4) (.slice a3 m.homes.length c3) (.slice a2 m.seats.length c2) done m.homes m.seats S) (by unfold stateL; simp))
      replace hbz := Lib.hid hbz
      clear hz5 hz hbx hby
      go_wp2_with fail
      refine bodyPost_ret (results_cell_row rfl _ _ _ 27 _ (0, 0) _ rfl hbz.out Tryz.underlying27 rfl rfl) rfl ?_
      have h1 := hd.out.2.1
      rw [List.take_length, hbs.out] at h1
      exact ⟨_, _, _, done, S, rfl, Lib.hid ⟨h1, hd.out.2.2⟩, hz6⟩
end Go.Proofs.YtcnebfmlelcliaaGreat
namespace Go.Proofs.YtcnebfmlelcliaaGreat
open Go.RowKit

/-- the place of the first that p says, or -1 -/
def optI (o : Option Nat) : Int := match o with
  | some i => (i : Int)
  | none => -1
def idxI {α : Type} (p : α → Bool) (l : List α) : Int := optI (l.findIdx? p)
theorem beq_cast (a b : Nat) : ((a : Int) == (b : Int)) = (a == b) := by rw [Bool.eq_iff_iff]; simp; try omega
theorem idxI_some {α : Type} {p : α → Bool} {l : List α} {i : Nat} (hi : i < l.length) (hp : p l[i] = true) (hno : ∀ k (hk : k < i), p (l[k]'(by omega)) = false) : idxI p l = (i : Int) := by
  have : l.findIdx? p = some i := List.findIdx?_eq_some_iff_getElem.2 ⟨hi, hp, fun k hk => by simp [hno k hk]⟩
  unfold idxI; rw [this]; rfl
theorem idxI_none {α : Type} {p : α → Bool} {l : List α} (hno : ∀ k (hk : k < l.length), p l[k] = false) : idxI p l = -1 := by
  have : l.findIdx? p = none := List.findIdx?_eq_none_iff.2 (fun x hx => by
    obtain ⟨k, hk, rfl⟩ := List.mem_iff_getElem.1 hx
    exact hno k hk)
  unfold idxI; rw [this]; rfl
theorem homeOne_any (x : Hm) (node : Int) (X : Nat) (W : World) (hX : W.cell? ⟨X, 0, none⟩ = some (.int .i64 node)) :
    Calls Tryz.prog 87 #[.agg #[.int .i64 x.node, .int .u64 x.life, .int .u64 x.try_], .pointer (some ⟨X, 0, none⟩)] W fun e w' => e = .returned (.bool (x.node == node)) ∧ Hid (Below W.heap.size W w') := by
  have hXlt : X < W.heap.size := World.block_lt_of_cell? W ⟨X, 0, none⟩ hX
  have hXs : X ≠ W.heap.size := by omega
  go_enter Tryz.func87, Tryz.ntmps87
  go_wp2_with fail
  all_goals
    go_ret
    exact ⟨ret_bool (by first | rfl | (simp)), Lib.hid ((Below.refl _ W).alloc (Nat.le_refl _) _)⟩
set_option maxRecDepth 100000 in
set_option maxHeartbeats 4000000 in
theorem homeIdx_any (v : Value) (l : List Hm) (node : Int) (X : Nat) (hlen : l.length ≤ 100000) (W : World) (ho : Rd W v l.length (hmT.cells l)) (hX : W.cell? ⟨X, 0, none⟩ = some (.int .i64 node)) :
    Calls Tryz.prog 86 #[v, .func (.func 87) #[] #[.pointer (some ⟨X, 0, none⟩)]] W fun e w' => ∃ r : Int, e = .returned (.int .i64 r) ∧ Hid (r = idxI (fun x => x.node == node) l) ∧ Hid (Below W.heap.size W w') := by
  have hXlt : X < W.heap.size := World.block_lt_of_cell? W ⟨X, 0, none⟩ hX
  have hf := Lib.hid (fun x W2 (h : Below W.heap.size W W2) => homeOne_any x node X W2 ((h.cell (p := ⟨X, 0, none⟩) hXlt).trans hX))
  obtain ⟨ao, cap, hv, -⟩ := id ho
  subst hv
  replace ho := Lib.hid ho
  obtain ⟨p, hp⟩ : ∃ p : Hm → Bool, p = (fun x => x.node == node) := ⟨_, rfl⟩
  rw [← hp]
  have hpx : Hid (∀ x, (x.node == node) = p x) := Lib.hid (fun x => by rw [hp])
  clear hp hX hXlt
  go_enter Tryz.func86, Tryz.ntmps86
  go_wp2_with fail
  go_loopw [8] (fun v8 wr => ∃ i : Nat, v8 = .int .i64 i ∧ i ≤ l.length ∧ Hid (∀ k (_ : k < i) (h2 : k < l.length), p l[k] = false) ∧ Hid (Below W.heap.size W wr)) (fun v8 _ => l.length - (intOf v8).toNat)
  case atStart => exact ⟨0, rfl, Nat.zero_le _, Lib.hid (fun k hk => by omega), Lib.hid (Below.refl _ _)⟩
  case round =>
    obtain ⟨i, rfl, hi, hno, hb⟩ := hrel
    by_cases hlt : i < l.length
    · obtain ⟨b, o, cap', hv, -, hblt, hcells⟩ := hmT.rd_cells (ho.out.below hb.out) hlt
      injection hv with hv1 hv2 hv3
      subst hv1 hv3
      obtain ⟨x, hx⟩ : ∃ x, l[i] = x := ⟨_, rfl⟩
      have r0 : wr.cell? ⟨b, o + i * 3, none⟩ = some (.int .i64 x.node) := by have := hcells 0 _ (by rw [hx]; rfl); rwa [show o + (i * hmT.K + 0) = o + i * 3 from by simp only [hmT]; omega] at this
      have r1 : wr.cell? ⟨b, o + i * 3 + 1, none⟩ = some (.int .u64 x.life) := by have := hcells 1 _ (by rw [hx]; rfl); rwa [show o + (i * hmT.K + 1) = o + i * 3 + 1 from by simp only [hmT]; omega] at this
      have r2 : wr.cell? ⟨b, o + i * 3 + 2, none⟩ = some (.int .u64 x.try_) := by have := hcells 2 _ (by rw [hx]; rfl); rwa [show o + (i * hmT.K + 2) = o + i * 3 + 2 from by simp only [hmT]; omega] at this
      have hcall := hf.out x wr hb.out
      rw [hpx.out x] at hcall
      have hl1 : (i : Int) < (l.length : Int) := by omega
      cases hq : p x with
      | true =>
        have hfound := Lib.hid (idxI_some hlt (by rw [hx]; exact hq) (fun k hk => hno.out k hk (by omega)) : idxI p l = (i : Int))
        rw [hq] at hcall
        replace hcall := Lib.hid hcall
        replace hx := Lib.hid hx
        clear hcells hq hno
        go_wp2_with fail
        refine hcall.out.mono ?_
        rintro e w1 ⟨rfl, hb1⟩
        have hB := Lib.hid (hb.out.trans (hb1.out.mono hb.out.size))
        clear hcall hb1
        go_wp2_with fail
        go_ret
        exact ⟨_, rfl, Lib.hid hfound.out.symm, hB⟩
      | false =>
        have hno2 : Hid (∀ k (_ : k < i + 1) (h2 : k < l.length), p l[k] = false) := Lib.hid (fun k hk h2 => by
          by_cases e : k = i
          · subst e; rw [hx]; exact hq
          · exact hno.out k (by omega) h2)
        rw [hq] at hcall
        replace hcall := Lib.hid hcall
        replace hx := Lib.hid hx
        clear hcells hq hno
        go_wp2_with fail
        refine hcall.out.mono ?_
        rintro e w1 ⟨rfl, hb1⟩
        have hB := Lib.hid (hb.out.trans (hb1.out.mono hb.out.size))
        clear hcall hb1
        go_wp2_with fail
        go_roundw
        case rel => exact ⟨i + 1, by go_num, by omega, hno2, hB⟩
        case measure => simp [intOf] <;> omega
    · have hnone := Lib.hid (idxI_none (fun k hk => hno.out k (by omega) hk) : idxI p l = -1)
      have hl1 : (l.length : Int) ≤ (i : Int) := by omega
      go_wp2_with fail
      go_ret
      exact ⟨_, rfl, Lib.hid hnone.out.symm, hb⟩
theorem openedOne_any (x : St) (node : Int) (try_ : Nat) (X : Nat) (Y : Nat) (W : World) (hX : W.cell? ⟨X, 0, none⟩ = some (.int .i64 node)) (hY : W.cell? ⟨Y, 0, none⟩ = some (.int .u64 try_)) :
    Calls Tryz.prog 88 #[.agg #[.int .u64 x.session, .int .u64 x.last, .int .i64 x.node, .int .u64 x.life, .int .u64 x.try_], .pointer (some ⟨X, 0, none⟩), .pointer (some ⟨Y, 0, none⟩)] W fun e w' => e = .returned (.bool (x.node == node && x.try_ == try_)) ∧ Hid (Below W.heap.size W w') := by
  have hXlt : X < W.heap.size := World.block_lt_of_cell? W ⟨X, 0, none⟩ hX
  have hXs : X ≠ W.heap.size := by omega
  have hYlt : Y < W.heap.size := World.block_lt_of_cell? W ⟨Y, 0, none⟩ hY
  have hYs : Y ≠ W.heap.size := by omega
  go_enter Tryz.func88, Tryz.ntmps88
  go_wp2_with fail
  all_goals
    go_ret
    exact ⟨ret_bool (by first | rfl | (simp_all [beq_cast])), Lib.hid ((Below.refl _ W).alloc (Nat.le_refl _) _)⟩
set_option maxRecDepth 100000 in
set_option maxHeartbeats 4000000 in
theorem openedIdx_any (v : Value) (l : List St) (node : Int) (try_ : Nat) (X : Nat) (Y : Nat) (hlen : l.length ≤ 100000) (W : World) (ho : Rd W v l.length (stT.cells l)) (hX : W.cell? ⟨X, 0, none⟩ = some (.int .i64 node)) (hY : W.cell? ⟨Y, 0, none⟩ = some (.int .u64 try_)) :
    Calls Tryz.prog 80 #[v, .func (.func 88) #[] #[.pointer (some ⟨X, 0, none⟩), .pointer (some ⟨Y, 0, none⟩)]] W fun e w' => ∃ r : Int, e = .returned (.int .i64 r) ∧ Hid (r = idxI (fun x => x.node == node && x.try_ == try_) l) ∧ Hid (Below W.heap.size W w') := by
  have hXlt : X < W.heap.size := World.block_lt_of_cell? W ⟨X, 0, none⟩ hX
  have hYlt : Y < W.heap.size := World.block_lt_of_cell? W ⟨Y, 0, none⟩ hY
  have hf := Lib.hid (fun x W2 (h : Below W.heap.size W W2) => openedOne_any x node try_ X Y W2 ((h.cell (p := ⟨X, 0, none⟩) hXlt).trans hX) ((h.cell (p := ⟨Y, 0, none⟩) hYlt).trans hY))
  obtain ⟨ao, cap, hv, -⟩ := id ho
  subst hv
  replace ho := Lib.hid ho
  obtain ⟨p, hp⟩ : ∃ p : St → Bool, p = (fun x => x.node == node && x.try_ == try_) := ⟨_, rfl⟩
  rw [← hp]
  have hpx : Hid (∀ x, (x.node == node && x.try_ == try_) = p x) := Lib.hid (fun x => by rw [hp])
  clear hp hX hXlt hY hYlt
  go_enter Tryz.func80, Tryz.ntmps80
  go_wp2_with fail
  go_loopw [8] (fun v8 wr => ∃ i : Nat, v8 = .int .i64 i ∧ i ≤ l.length ∧ Hid (∀ k (_ : k < i) (h2 : k < l.length), p l[k] = false) ∧ Hid (Below W.heap.size W wr)) (fun v8 _ => l.length - (intOf v8).toNat)
  case atStart => exact ⟨0, rfl, Nat.zero_le _, Lib.hid (fun k hk => by omega), Lib.hid (Below.refl _ _)⟩
  case round =>
    obtain ⟨i, rfl, hi, hno, hb⟩ := hrel
    by_cases hlt : i < l.length
    · obtain ⟨b, o, cap', hv, -, hblt, hcells⟩ := stT.rd_cells (ho.out.below hb.out) hlt
      injection hv with hv1 hv2 hv3
      subst hv1 hv3
      obtain ⟨x, hx⟩ : ∃ x, l[i] = x := ⟨_, rfl⟩
      have r0 : wr.cell? ⟨b, o + i * 5, none⟩ = some (.int .u64 x.session) := by have := hcells 0 _ (by rw [hx]; rfl); rwa [show o + (i * stT.K + 0) = o + i * 5 from by simp only [stT]; omega] at this
      have r1 : wr.cell? ⟨b, o + i * 5 + 1, none⟩ = some (.int .u64 x.last) := by have := hcells 1 _ (by rw [hx]; rfl); rwa [show o + (i * stT.K + 1) = o + i * 5 + 1 from by simp only [stT]; omega] at this
      have r2 : wr.cell? ⟨b, o + i * 5 + 2, none⟩ = some (.int .i64 x.node) := by have := hcells 2 _ (by rw [hx]; rfl); rwa [show o + (i * stT.K + 2) = o + i * 5 + 2 from by simp only [stT]; omega] at this
      have r3 : wr.cell? ⟨b, o + i * 5 + 3, none⟩ = some (.int .u64 x.life) := by have := hcells 3 _ (by rw [hx]; rfl); rwa [show o + (i * stT.K + 3) = o + i * 5 + 3 from by simp only [stT]; omega] at this
      have r4 : wr.cell? ⟨b, o + i * 5 + 4, none⟩ = some (.int .u64 x.try_) := by have := hcells 4 _ (by rw [hx]; rfl); rwa [show o + (i * stT.K + 4) = o + i * 5 + 4 from by simp only [stT]; omega] at this
      have hcall := hf.out x wr hb.out
      rw [hpx.out x] at hcall
      have hl1 : (i : Int) < (l.length : Int) := by omega
      cases hq : p x with
      | true =>
        have hfound := Lib.hid (idxI_some hlt (by rw [hx]; exact hq) (fun k hk => hno.out k hk (by omega)) : idxI p l = (i : Int))
        rw [hq] at hcall
        replace hcall := Lib.hid hcall
        replace hx := Lib.hid hx
        clear hcells hq hno
        go_wp2_with fail
        refine hcall.out.mono ?_
        rintro e w1 ⟨rfl, hb1⟩
        have hB := Lib.hid (hb.out.trans (hb1.out.mono hb.out.size))
        clear hcall hb1
        go_wp2_with fail
        go_ret
        exact ⟨_, rfl, Lib.hid hfound.out.symm, hB⟩
      | false =>
        have hno2 : Hid (∀ k (_ : k < i + 1) (h2 : k < l.length), p l[k] = false) := Lib.hid (fun k hk h2 => by
          by_cases e : k = i
          · subst e; rw [hx]; exact hq
          · exact hno.out k (by omega) h2)
        rw [hq] at hcall
        replace hcall := Lib.hid hcall
        replace hx := Lib.hid hx
        clear hcells hq hno
        go_wp2_with fail
        refine hcall.out.mono ?_
        rintro e w1 ⟨rfl, hb1⟩
        have hB := Lib.hid (hb.out.trans (hb1.out.mono hb.out.size))
        clear hcall hb1
        go_wp2_with fail
        go_roundw
        case rel => exact ⟨i + 1, by go_num, by omega, hno2, hB⟩
        case measure => simp [intOf] <;> omega
    · have hnone := Lib.hid (idxI_none (fun k hk => hno.out k (by omega) hk) : idxI p l = -1)
      have hl1 : (l.length : Int) ≤ (i : Int) := by omega
      go_wp2_with fail
      go_ret
      exact ⟨_, rfl, Lib.hid hnone.out.symm, hb⟩
theorem seatOne_any (x : St) (session : Nat) (X : Nat) (W : World) (hX : W.cell? ⟨X, 0, none⟩ = some (.int .u64 session)) :
    Calls Tryz.prog 81 #[.agg #[.int .u64 x.session, .int .u64 x.last, .int .i64 x.node, .int .u64 x.life, .int .u64 x.try_], .pointer (some ⟨X, 0, none⟩)] W fun e w' => e = .returned (.bool (x.session == session)) ∧ Hid (Below W.heap.size W w') := by
  have hXlt : X < W.heap.size := World.block_lt_of_cell? W ⟨X, 0, none⟩ hX
  have hXs : X ≠ W.heap.size := by omega
  go_enter Tryz.func81, Tryz.ntmps81
  go_wp2_with fail
  all_goals
    go_ret
    exact ⟨ret_bool (by first | rfl | (exact beq_cast _ _)), Lib.hid ((Below.refl _ W).alloc (Nat.le_refl _) _)⟩
set_option maxRecDepth 100000 in
set_option maxHeartbeats 4000000 in
theorem seatIdx_any (v : Value) (l : List St) (session : Nat) (X : Nat) (hlen : l.length ≤ 100000) (W : World) (ho : Rd W v l.length (stT.cells l)) (hX : W.cell? ⟨X, 0, none⟩ = some (.int .u64 session)) :
    Calls Tryz.prog 80 #[v, .func (.func 81) #[] #[.pointer (some ⟨X, 0, none⟩)]] W fun e w' => ∃ r : Int, e = .returned (.int .i64 r) ∧ Hid (r = idxI (fun x => x.session == session) l) ∧ Hid (Below W.heap.size W w') := by
  have hXlt : X < W.heap.size := World.block_lt_of_cell? W ⟨X, 0, none⟩ hX
  have hf := Lib.hid (fun x W2 (h : Below W.heap.size W W2) => seatOne_any x session X W2 ((h.cell (p := ⟨X, 0, none⟩) hXlt).trans hX))
  obtain ⟨ao, cap, hv, -⟩ := id ho
  subst hv
  replace ho := Lib.hid ho
  obtain ⟨p, hp⟩ : ∃ p : St → Bool, p = (fun x => x.session == session) := ⟨_, rfl⟩
  rw [← hp]
  have hpx : Hid (∀ x, (x.session == session) = p x) := Lib.hid (fun x => by rw [hp])
  clear hp hX hXlt
  go_enter Tryz.func80, Tryz.ntmps80
  go_wp2_with fail
  go_loopw [8] (fun v8 wr => ∃ i : Nat, v8 = .int .i64 i ∧ i ≤ l.length ∧ Hid (∀ k (_ : k < i) (h2 : k < l.length), p l[k] = false) ∧ Hid (Below W.heap.size W wr)) (fun v8 _ => l.length - (intOf v8).toNat)
  case atStart => exact ⟨0, rfl, Nat.zero_le _, Lib.hid (fun k hk => by omega), Lib.hid (Below.refl _ _)⟩
  case round =>
    obtain ⟨i, rfl, hi, hno, hb⟩ := hrel
    by_cases hlt : i < l.length
    · obtain ⟨b, o, cap', hv, -, hblt, hcells⟩ := stT.rd_cells (ho.out.below hb.out) hlt
      injection hv with hv1 hv2 hv3
      subst hv1 hv3
      obtain ⟨x, hx⟩ : ∃ x, l[i] = x := ⟨_, rfl⟩
      have r0 : wr.cell? ⟨b, o + i * 5, none⟩ = some (.int .u64 x.session) := by have := hcells 0 _ (by rw [hx]; rfl); rwa [show o + (i * stT.K + 0) = o + i * 5 from by simp only [stT]; omega] at this
      have r1 : wr.cell? ⟨b, o + i * 5 + 1, none⟩ = some (.int .u64 x.last) := by have := hcells 1 _ (by rw [hx]; rfl); rwa [show o + (i * stT.K + 1) = o + i * 5 + 1 from by simp only [stT]; omega] at this
      have r2 : wr.cell? ⟨b, o + i * 5 + 2, none⟩ = some (.int .i64 x.node) := by have := hcells 2 _ (by rw [hx]; rfl); rwa [show o + (i * stT.K + 2) = o + i * 5 + 2 from by simp only [stT]; omega] at this
      have r3 : wr.cell? ⟨b, o + i * 5 + 3, none⟩ = some (.int .u64 x.life) := by have := hcells 3 _ (by rw [hx]; rfl); rwa [show o + (i * stT.K + 3) = o + i * 5 + 3 from by simp only [stT]; omega] at this
      have r4 : wr.cell? ⟨b, o + i * 5 + 4, none⟩ = some (.int .u64 x.try_) := by have := hcells 4 _ (by rw [hx]; rfl); rwa [show o + (i * stT.K + 4) = o + i * 5 + 4 from by simp only [stT]; omega] at this
      have hcall := hf.out x wr hb.out
      rw [hpx.out x] at hcall
      have hl1 : (i : Int) < (l.length : Int) := by omega
      cases hq : p x with
      | true =>
        have hfound := Lib.hid (idxI_some hlt (by rw [hx]; exact hq) (fun k hk => hno.out k hk (by omega)) : idxI p l = (i : Int))
        rw [hq] at hcall
        replace hcall := Lib.hid hcall
        replace hx := Lib.hid hx
        clear hcells hq hno
        go_wp2_with fail
        refine hcall.out.mono ?_
        rintro e w1 ⟨rfl, hb1⟩
        have hB := Lib.hid (hb.out.trans (hb1.out.mono hb.out.size))
        clear hcall hb1
        go_wp2_with fail
        go_ret
        exact ⟨_, rfl, Lib.hid hfound.out.symm, hB⟩
      | false =>
        have hno2 : Hid (∀ k (_ : k < i + 1) (h2 : k < l.length), p l[k] = false) := Lib.hid (fun k hk h2 => by
          by_cases e : k = i
          · subst e; rw [hx]; exact hq
          · exact hno.out k (by omega) h2)
        rw [hq] at hcall
        replace hcall := Lib.hid hcall
        replace hx := Lib.hid hx
        clear hcells hq hno
        go_wp2_with fail
        refine hcall.out.mono ?_
        rintro e w1 ⟨rfl, hb1⟩
        have hB := Lib.hid (hb.out.trans (hb1.out.mono hb.out.size))
        clear hcall hb1
        go_wp2_with fail
        go_roundw
        case rel => exact ⟨i + 1, by go_num, by omega, hno2, hB⟩
        case measure => simp [intOf] <;> omega
    · have hnone := Lib.hid (idxI_none (fun k hk => hno.out k (by omega) hk) : idxI p l = -1)
      have hl1 : (l.length : Int) ≤ (i : Int) := by omega
      go_wp2_with fail
      go_ret
      exact ⟨_, rfl, Lib.hid hnone.out.symm, hb⟩
theorem atOne_any (x : BxV) (name : ByteArray) (X : Nat) (W : World) (hX : W.cell? ⟨X, 0, none⟩ = some (.string name)) :
    Calls Tryz.prog 56 #[.agg #[.string x.name, .int .u64 x.validity, .int .u64 x.next, .int .u64 x.high, .slice x.a x.rows.length x.c], .pointer (some ⟨X, 0, none⟩)] W fun e w' => e = .returned (.bool (x.name.toList == name.toList)) ∧ Hid (Below W.heap.size W w') := by
  have hXlt : X < W.heap.size := World.block_lt_of_cell? W ⟨X, 0, none⟩ hX
  have hXs : X ≠ W.heap.size := by omega
  go_enter Tryz.func56, Tryz.ntmps56
  go_wp2_with fail
  all_goals
    go_ret
    exact ⟨ret_bool (by first | rfl | (simp)), Lib.hid ((Below.refl _ W).alloc (Nat.le_refl _) _)⟩
set_option maxRecDepth 100000 in
set_option maxHeartbeats 4000000 in
theorem atIdx_any (v : Value) (l : List BxV) (name : ByteArray) (X : Nat) (hlen : l.length ≤ 100000) (W : World) (ho : Rd W v l.length (bxT.cells l)) (hX : W.cell? ⟨X, 0, none⟩ = some (.string name)) :
    Calls Tryz.prog 55 #[v, .func (.func 56) #[] #[.pointer (some ⟨X, 0, none⟩)]] W fun e w' => ∃ r : Int, e = .returned (.int .i64 r) ∧ Hid (r = idxI (fun x => x.name.toList == name.toList) l) ∧ Hid (Below W.heap.size W w') := by
  have hXlt : X < W.heap.size := World.block_lt_of_cell? W ⟨X, 0, none⟩ hX
  have hf := Lib.hid (fun x W2 (h : Below W.heap.size W W2) => atOne_any x name X W2 ((h.cell (p := ⟨X, 0, none⟩) hXlt).trans hX))
  obtain ⟨ao, cap, hv, -⟩ := id ho
  subst hv
  replace ho := Lib.hid ho
  obtain ⟨p, hp⟩ : ∃ p : BxV → Bool, p = (fun x => x.name.toList == name.toList) := ⟨_, rfl⟩
  rw [← hp]
  have hpx : Hid (∀ x, (x.name.toList == name.toList) = p x) := Lib.hid (fun x => by rw [hp])
  clear hp hX hXlt
  go_enter Tryz.func55, Tryz.ntmps55
  go_wp2_with fail
  go_loopw [8] (fun v8 wr => ∃ i : Nat, v8 = .int .i64 i ∧ i ≤ l.length ∧ Hid (∀ k (_ : k < i) (h2 : k < l.length), p l[k] = false) ∧ Hid (Below W.heap.size W wr)) (fun v8 _ => l.length - (intOf v8).toNat)
  case atStart => exact ⟨0, rfl, Nat.zero_le _, Lib.hid (fun k hk => by omega), Lib.hid (Below.refl _ _)⟩
  case round =>
    obtain ⟨i, rfl, hi, hno, hb⟩ := hrel
    by_cases hlt : i < l.length
    · obtain ⟨b, o, cap', hv, -, hblt, hcells⟩ := bxT.rd_cells (ho.out.below hb.out) hlt
      injection hv with hv1 hv2 hv3
      subst hv1 hv3
      obtain ⟨x, hx⟩ : ∃ x, l[i] = x := ⟨_, rfl⟩
      have r0 : wr.cell? ⟨b, o + i * 5, none⟩ = some (.string x.name) := by have := hcells 0 _ (by rw [hx]; rfl); rwa [show o + (i * bxT.K + 0) = o + i * 5 from by simp only [bxT]; omega] at this
      have r1 : wr.cell? ⟨b, o + i * 5 + 1, none⟩ = some (.int .u64 x.validity) := by have := hcells 1 _ (by rw [hx]; rfl); rwa [show o + (i * bxT.K + 1) = o + i * 5 + 1 from by simp only [bxT]; omega] at this
      have r2 : wr.cell? ⟨b, o + i * 5 + 2, none⟩ = some (.int .u64 x.next) := by have := hcells 2 _ (by rw [hx]; rfl); rwa [show o + (i * bxT.K + 2) = o + i * 5 + 2 from by simp only [bxT]; omega] at this
      have r3 : wr.cell? ⟨b, o + i * 5 + 3, none⟩ = some (.int .u64 x.high) := by have := hcells 3 _ (by rw [hx]; rfl); rwa [show o + (i * bxT.K + 3) = o + i * 5 + 3 from by simp only [bxT]; omega] at this
      have r4 : wr.cell? ⟨b, o + i * 5 + 4, none⟩ = some (.slice x.a x.rows.length x.c) := by have := hcells 4 _ (by rw [hx]; rfl); rwa [show o + (i * bxT.K + 4) = o + i * 5 + 4 from by simp only [bxT]; omega] at this
      have hcall := hf.out x wr hb.out
      rw [hpx.out x] at hcall
      have hl1 : (i : Int) < (l.length : Int) := by omega
      cases hq : p x with
      | true =>
        have hfound := Lib.hid (idxI_some hlt (by rw [hx]; exact hq) (fun k hk => hno.out k hk (by omega)) : idxI p l = (i : Int))
        rw [hq] at hcall
        replace hcall := Lib.hid hcall
        replace hx := Lib.hid hx
        clear hcells hq hno
        go_wp2_with fail
        refine hcall.out.mono ?_
        rintro e w1 ⟨rfl, hb1⟩
        have hB := Lib.hid (hb.out.trans (hb1.out.mono hb.out.size))
        clear hcall hb1
        go_wp2_with fail
        go_ret
        exact ⟨_, rfl, Lib.hid hfound.out.symm, hB⟩
      | false =>
        have hno2 : Hid (∀ k (_ : k < i + 1) (h2 : k < l.length), p l[k] = false) := Lib.hid (fun k hk h2 => by
          by_cases e : k = i
          · subst e; rw [hx]; exact hq
          · exact hno.out k (by omega) h2)
        rw [hq] at hcall
        replace hcall := Lib.hid hcall
        replace hx := Lib.hid hx
        clear hcells hq hno
        go_wp2_with fail
        refine hcall.out.mono ?_
        rintro e w1 ⟨rfl, hb1⟩
        have hB := Lib.hid (hb.out.trans (hb1.out.mono hb.out.size))
        clear hcall hb1
        go_wp2_with fail
        go_roundw
        case rel => exact ⟨i + 1, by go_num, by omega, hno2, hB⟩
        case measure => simp [intOf] <;> omega
    · have hnone := Lib.hid (idxI_none (fun k hk => hno.out k (by omega) hk) : idxI p l = -1)
      have hl1 : (l.length : Int) ≤ (i : Int) := by omega
      go_wp2_with fail
      go_ret
      exact ⟨_, rfl, Lib.hid hnone.out.symm, hb⟩
end Go.Proofs.YtcnebfmlelcliaaGreat
namespace Go.Proofs.YtcnebfmlelcliaaGreat
set_option linter.unusedSimpArgs false
open Go.RowKit

theorem cell_one (w : World) (v : Value) (t : TypeId) (n : Nat) (h : w.heap.size = n) : (w.alloc (.cells #[v] t)).cell? ⟨n, 0, none⟩ = some v := by subst h; simp
theorem cell_old {w : World} (o : Obj) {a : Addr} {v : Value} (h : w.cell? a = some v) : (w.alloc o).cell? a = some v := by
  rw [World.cell?_alloc_lt _ _ _ (World.block_lt_of_cell? w a h)]; exact h
def IntBelow (W : World) (r : Int) (e : Ending) (w' : World) : Prop := e = .returned (.int .i64 r) ∧ Hid (Below W.heap.size W w')
set_option maxRecDepth 100000 in
set_option maxHeartbeats 4000000 in
theorem home_any {W : World} (ab ah as_ : Option Addr) (nb cb ch ns cs nv nse sw : Nat) (hs : List Hm) (node : Int) (hh : HmsIn W (.slice ah hs.length ch) hs) (hl : hs.length ≤ 100000) :
    Calls Tryz.prog 58 #[mlVal (.slice ab nb cb) nv (.slice ah hs.length ch) (.slice as_ ns cs) nse sw, .int .i64 node] W (IntBelow W (idxI (fun x => x.node == node) hs)) := by
  have hb : Below W.heap.size W ((W.alloc (.cells #[.slice ab nb cb, .int .u64 nv, .slice ah hs.length ch, .slice as_ ns cs, .int .u64 nse, .int .u64 sw] 27)).alloc (.cells #[.int .i64 node] 3)) := ((Below.refl _ W).alloc (Nat.le_refl _) _).alloc (by simp) _
  have hc := Lib.hid (homeIdx_any (.slice ah hs.length ch) hs node (W.heap.size + 1) hl _ (Rd.below hh hb) (cell_one _ _ _ _ (by simp)))
  replace hb := Lib.hid hb
  unfold mlVal
  go_enter Tryz.func58, Tryz.ntmps58
  go_wp2_with fail
  refine hc.out.mono ?_
  rintro e w2 ⟨r, rfl, hr, hb2⟩
  have hB := Lib.hid (hb.out.trans (hb2.out.mono hb.out.size))
  clear hc hb2
  go_wp2_with fail
  go_ret
  exact ⟨ret_int hr.out, hB⟩
set_option maxRecDepth 100000 in
set_option maxHeartbeats 4000000 in
theorem opened_any {W : World} (ab ah as_ : Option Addr) (nb cb nh ch cs nv nse sw : Nat) (ss : List St) (node : Int) (try_ : Nat) (hh : StsIn W (.slice as_ ss.length cs) ss) (hl : ss.length ≤ 100000) :
    Calls Tryz.prog 59 #[mlVal (.slice ab nb cb) nv (.slice ah nh ch) (.slice as_ ss.length cs) nse sw, .int .i64 node, .int .u64 try_] W (IntBelow W (idxI (fun x => x.node == node && x.try_ == try_) ss)) := by
  have hb : Below W.heap.size W (((W.alloc (.cells #[.slice ab nb cb, .int .u64 nv, .slice ah nh ch, .slice as_ ss.length cs, .int .u64 nse, .int .u64 sw] 27)).alloc (.cells #[.int .i64 node] 3)).alloc (.cells #[.int .u64 try_] 23)) := (((Below.refl _ W).alloc (Nat.le_refl _) _).alloc (by simp) _).alloc (by simp; omega) _
  have hc := Lib.hid (openedIdx_any (.slice as_ ss.length cs) ss node try_ (W.heap.size + 1) (W.heap.size + 1 + 1) hl _ (Rd.below hh hb) (cell_old _ (cell_one _ _ _ _ (by simp))) (cell_one _ _ _ _ (by simp)))
  replace hb := Lib.hid hb
  unfold mlVal
  go_enter Tryz.func59, Tryz.ntmps59
  go_wp2_with fail
  refine hc.out.mono ?_
  rintro e w2 ⟨r, rfl, hr, hb2⟩
  have hB := Lib.hid (hb.out.trans (hb2.out.mono hb.out.size))
  clear hc hb2
  go_wp2_with fail
  go_ret
  exact ⟨ret_int hr.out, hB⟩
set_option maxRecDepth 100000 in
set_option maxHeartbeats 4000000 in
theorem seat_any {W : World} (ab ah as_ : Option Addr) (nb cb nh ch cs nv nse sw : Nat) (ss : List St) (session : Nat) (hh : StsIn W (.slice as_ ss.length cs) ss) (hl : ss.length ≤ 100000) :
    Calls Tryz.prog 46 #[mlVal (.slice ab nb cb) nv (.slice ah nh ch) (.slice as_ ss.length cs) nse sw, .int .u64 session] W (IntBelow W (idxI (fun x => x.session == session) ss)) := by
  have hb : Below W.heap.size W ((W.alloc (.cells #[.slice ab nb cb, .int .u64 nv, .slice ah nh ch, .slice as_ ss.length cs, .int .u64 nse, .int .u64 sw] 27)).alloc (.cells #[.int .u64 session] 23)) := ((Below.refl _ W).alloc (Nat.le_refl _) _).alloc (by simp) _
  have hc := Lib.hid (seatIdx_any (.slice as_ ss.length cs) ss session (W.heap.size + 1) hl _ (Rd.below hh hb) (cell_one _ _ _ _ (by simp)))
  replace hb := Lib.hid hb
  unfold mlVal
  go_enter Tryz.func46, Tryz.ntmps46
  go_wp2_with fail
  refine hc.out.mono ?_
  rintro e w2 ⟨r, rfl, hr, hb2⟩
  have hB := Lib.hid (hb.out.trans (hb2.out.mono hb.out.size))
  clear hc hb2
  go_wp2_with fail
  go_ret
  exact ⟨ret_int hr.out, hB⟩
def atB (name : ByteArray) (bs : List BxV) : Int := idxI (fun x => x.name.toList == name.toList) bs
set_option maxRecDepth 100000 in
set_option maxHeartbeats 4000000 in
theorem at_any {W : World} (ab ah as_ : Option Addr) (cb nh ch ns cs nv nse sw : Nat) (bs : List BxV) (name : ByteArray) (hh : Rd W (.slice ab bs.length cb) bs.length (bxT.cells bs)) (hl : bs.length ≤ 100000) :
    Calls Tryz.prog 33 #[mlVal (.slice ab bs.length cb) nv (.slice ah nh ch) (.slice as_ ns cs) nse sw, .string name] W (IntBelow W (atB name bs)) := by
  have hb : Below W.heap.size W ((W.alloc (.cells #[.slice ab bs.length cb, .int .u64 nv, .slice ah nh ch, .slice as_ ns cs, .int .u64 nse, .int .u64 sw] 27)).alloc (.cells #[.string name] 9)) := ((Below.refl _ W).alloc (Nat.le_refl _) _).alloc (by simp) _
  have hc := Lib.hid (atIdx_any (.slice ab bs.length cb) bs name (W.heap.size + 1) hl _ (Rd.below hh hb) (cell_one _ _ _ _ (by simp)))
  replace hb := Lib.hid hb
  unfold mlVal
  go_enter Tryz.func33, Tryz.ntmps33
  go_wp2_with fail
  refine hc.out.mono ?_
  rintro e w2 ⟨r, rfl, hr, hb2⟩
  have hB := Lib.hid (hb.out.trans (hb2.out.mono hb.out.size))
  clear hc hb2
  go_wp2_with fail
  go_ret
  exact ⟨ret_int hr.out, hB⟩
end Go.Proofs.YtcnebfmlelcliaaGreat
namespace Go.Proofs.YtcnebfmlelcliaaGreat
open Go.RowKit

theorem heap_setCells {g : Nat} {t : TypeId} : ∀ (vs : List Value) (o : Nat) (C : List Value) (W : World), W.heap[g]? = some (.cells C.toArray t (0, 0)) → o + vs.length ≤ C.length → (W.setCells g o vs).heap[g]? = some (.cells (C.take o ++ vs ++ C.drop (o + vs.length)).toArray t (0, 0))
  | [], o, C, W, h, hl => by simpa [World.setCells] using h
  | v :: r, o, C, W, h, hl => by
    simp only [List.length_cons] at hl
    rw [World.setCells, heap_setCells r (o + 1) (C.set o v) _ (cells_set h o v) (by rw [List.length_set]; omega)]
    have e : (C.set o v).take (o + 1) ++ r ++ (C.set o v).drop (o + 1 + r.length) = C.take o ++ (v :: r) ++ C.drop (o + (v :: r).length) := by
      rw [List.drop_set_of_lt (by omega), List.take_set]
      have e1 : (C.take (o + 1)).set o v = C.take o ++ [v] := by
        rw [List.take_succ_eq_append_getElem (by omega), List.set_append_right _ _ (by rw [List.length_take]; omega), List.length_take, show o - min o C.length = 0 from by omega]; rfl
      rw [e1, List.append_assoc, List.append_assoc, List.append_assoc, List.length_cons, show o + 1 + r.length = o + (r.length + 1) from by omega]; rfl
    rw [e]
theorem KeptB.sets {W : World} {g : Nat} : ∀ (vs : List Value) (o : Nat) {W' : World}, KeptB W g W' → KeptB W g (W'.setCells g o vs)
  | [], _, _, h => h
  | v :: r, o, _, h => KeptB.sets r (o + 1) (h.set o v)
section
variable {α : Type} {R : RT α}
theorem RT.zeroV (R : RT α) (W : World) : (zeroValue R.t).run Tryz.prog W = .ok R.z W := by
  obtain ⟨i, hi, hz, -, -⟩ := info_parts R.info
  simp [zeroValue, typeInfo, hi, hz]
theorem RT.zeroCells (R : RT α) (zr : α) (hz : R.enc zr = R.z.cells.toList) (n : Nat) : (Builtin.zeroCells R.z.cells n).toList = R.cells (List.replicate n zr) := by
  have hK := R.pos
  have hzs := R.zs
  have hl : (Builtin.zeroCells R.z.cells n).toList.length = n * R.K := by simp [Builtin.zeroCells, hzs]
  apply List.ext_getElem?
  intro i
  by_cases hi : i < n * R.K
  · obtain ⟨m, q, hq, rfl⟩ : ∃ m q, q < R.K ∧ i = m * R.K + q := ⟨i / R.K, i % R.K, Nat.mod_lt _ hK, by rw [Nat.mul_comm]; exact (Nat.div_add_mod i R.K).symm⟩
    have hm : m < n := by
      rcases Nat.lt_or_ge m n with h1 | h1
      · exact h1
      · have := Nat.mul_le_mul_right R.K h1; omega
    rw [R.cells_get _ m (by rw [List.length_replicate]; exact hm) q hq, List.getElem_replicate, hz]
    simp only [Builtin.zeroCells, Array.toList_map, Array.toList_range, List.getElem?_map, hzs]
    rw [List.getElem?_range hi, Option.map_some, show (m * R.K + q) % R.K = q from by rw [Nat.mul_comm, Nat.mul_add_mod, Nat.mod_eq_of_lt hq], getElem!_pos _ _ (by rw [hzs]; exact hq), Array.getElem?_toList, Array.getElem?_eq_getElem (by rw [hzs]; exact hq)]
  · rw [List.getElem?_eq_none (by omega), List.getElem?_eq_none (by rw [R.cells_len, List.length_replicate]; omega)]
/-- 'clear(s[i:])' of a row -/
theorem RT.PR.clear {W : World} {g : Nat} {l : List α} {rest : List Value} (h : R.PR W g l rest) (zr : α) (hz : R.enc zr = R.z.cells.toList) (i n : Nat) (hn : 0 < n) (hi : i + n = l.length) (c : Nat) (ty : TypeId) :
    (Builtin.clear_ #[R.ts] ty #[.slice (some ⟨g, i * R.K, none⟩) n c]).run Tryz.prog W = .ok (.tuple #[]) (W.setCells g (i * R.K) (R.cells (List.replicate n zr))) := by
  have hK := R.pos
  have hln : (R.cells (List.replicate n zr)).length = n * R.K := by rw [R.cells_len, List.length_replicate]
  have hll : i * R.K + n * R.K = l.length * R.K := by rw [← hi, Nat.add_mul]
  have hst := run_storeCells_cells (P := Tryz.prog) g (i * R.K) (R.cells (List.replicate n zr)) 0 W (fun j hj => by
    rw [hln] at hj
    rw [Nat.add_zero, cell_at h]
    rw [List.getElem?_toArray, List.getElem?_append_left (by rw [R.cells_len]; omega)]
    rw [List.getElem?_eq_getElem (by rw [R.cells_len]; omega)]; rfl) (fun j _ => h.free _) (R.cells_one _)
  simp only [Nat.add_zero] at hst
  obtain ⟨m, rfl⟩ : ∃ m, n = m + 1 := ⟨n - 1, by omega⟩
  simp [Builtin.clear_, run_underlying R.und, R.zeroV, R.zeroCells zr hz, hst]
theorem RT.PR.cleared {W : World} {g : Nat} {l : List α} {rest : List Value} (h : R.PR W g l rest) (zr : α) (i n : Nat) (hi : i + n = l.length) : R.PR (W.setCells g (i * R.K) (R.cells (List.replicate n zr))) g (l.take i ++ List.replicate n zr) rest := by
  have hll : i * R.K + n * R.K = l.length * R.K := by rw [← hi, Nat.add_mul]
  have hln : (R.cells (List.replicate n zr)).length = n * R.K := by rw [R.cells_len, List.length_replicate]
  unfold RT.PR
  rw [heap_setCells _ _ _ _ h (by rw [hln, List.length_append, R.cells_len]; omega), hln, hll]
  have e1 : R.cells l = R.cells (l.take i) ++ R.cells (l.drop i) := by rw [← R.cells_app, List.take_append_drop]
  have e2 : (R.cells (l.take i)).length = i * R.K := by rw [R.cells_len, List.length_take]; congr 1; omega
  have e3 : (R.cells l ++ rest).take (i * R.K) = R.cells (l.take i) := by
    rw [e1, List.append_assoc, List.take_append_of_le_length (by rw [e2]; exact Nat.le_refl _), List.take_of_length_le (by rw [e2]; exact Nat.le_refl _)]
  have e4 : (R.cells l ++ rest).drop (l.length * R.K) = rest := by
    rw [← R.cells_len, List.drop_left]
  rw [e3, e4, R.cells_app]
/-- the end of a row is cleared and cut off -/
theorem Zoo.clear {W0 W : World} {L : List Th} {v : Value} {l : List α} (h : Zoo W0 W L) (i : Nat) (hi : L[i]? = some (R.row v l)) (zr : α) (hz : R.enc zr = R.z.cells.toList) (k n : Nat) (hn : 0 < n) (hk : k + n = l.length) :
    ∃ g cap, v = .slice (some ⟨g, 0, none⟩) l.length cap ∧ l.length ≤ cap ∧ (∀ c ty, (Builtin.clear_ #[R.ts] ty #[.slice (some ⟨g, k * R.K, none⟩) n c]).run Tryz.prog W = .ok (.tuple #[]) (W.setCells g (k * R.K) (R.cells (List.replicate n zr)))) ∧ Zoo W0 (W.setCells g (k * R.K) (R.cells (List.replicate n zr))) (L.set i (R.row (.slice (some ⟨g, 0, none⟩) k cap) (l.take k))) := by
  obtain ⟨F, ⟨ho, hF⟩, hlow, hact⟩ := h.act i _ hi
  obtain ⟨g, cap, rest, rfl, hc, hg, hrow, hback⟩ := ho.row (by omega)
  have h2 := hback _ _ k (by omega) (by rw [List.length_append, List.length_take, List.length_replicate]; omega) (hrow.cleared zr k n hk)
  rw [List.take_append_of_le_length (by rw [List.length_take]; omega), List.take_take, Nat.min_self] at h2
  have hkb : KeptB W g (W.setCells g (k * R.K) (R.cells (List.replicate n zr))) := KeptB.sets _ _ (KeptB.refl W g)
  exact ⟨g, cap, rfl, hc, fun c ty => hrow.clear zr hz k n hn hk c ty, hact _ F _ ⟨h2, hF⟩ (hkb.grows hF rfl)⟩
end
theorem idxI_cases {α : Type} (p : α → Bool) (l : List α) : (idxI p l = -1 ∧ l.filter (fun x => !p x) = l) ∨ ∃ (i : Nat) (hi : i < l.length), idxI p l = (i : Int) ∧ p l[i] = true ∧ ∀ k (hk : k < i), p (l[k]'(by omega)) = false := by
  unfold idxI
  cases h : l.findIdx? p with
  | none =>
    refine .inl ⟨rfl, List.filter_eq_self.2 (fun x hx => ?_)⟩
    rw [List.findIdx?_eq_none_iff.1 h x hx]; rfl
  | some i =>
    obtain ⟨hi, h1, h2⟩ := List.findIdx?_eq_some_iff_getElem.1 h
    exact .inr ⟨i, hi, rfl, h1, fun k hk => by have := h2 k hk; simpa using this⟩
/-- what a round of DeleteFunc has kept -/
structure Kept {α : Type} (p : α → Bool) (l cur : List α) (i j : Nat) : Prop where
  len : cur.length = l.length
  lt : i < j
  le : j ≤ l.length
  done : cur.take i = (l.take j).filter (fun x => !p x)
  todo : cur.drop j = l.drop j
theorem Kept.start {α : Type} {p : α → Bool} {l : List α} {i : Nat} (hi : i < l.length) (hp : p l[i] = true) (hno : ∀ k (hk : k < i), p (l[k]'(by omega)) = false) : Kept p l l i (i + 1) where
  len := rfl
  lt := Nat.lt_succ_self _
  le := hi
  done := by
    rw [List.take_succ_eq_append_getElem hi, List.filter_append, List.filter_eq_self.2 (fun x hx => by
      obtain ⟨k, hk, rfl⟩ := List.mem_iff_getElem.1 hx
      rw [List.length_take] at hk
      rw [List.getElem_take, hno k (by omega)]; rfl)]
    simp [hp]
  todo := rfl
theorem Kept.get {α : Type} {p : α → Bool} {l cur : List α} {i j : Nat} (h : Kept p l cur i j) (hj : j < l.length) : cur[j]'(by have := h.len; omega) = l[j] := by
  have := h.todo
  have e1 := List.drop_eq_getElem_cons (l := cur) (i := j) (by have := h.len; omega)
  have e2 := List.drop_eq_getElem_cons (l := l) (i := j) hj
  rw [e1, e2] at this
  exact (List.cons.inj this).1
theorem Kept.skip {α : Type} {p : α → Bool} {l cur : List α} {i j : Nat} (h : Kept p l cur i j) (hj : j < l.length) (hp : p l[j] = true) : Kept p l cur i (j + 1) where
  len := h.len
  lt := Nat.lt_succ_of_lt h.lt
  le := hj
  done := by rw [h.done, List.take_succ_eq_append_getElem hj, List.filter_append]; simp [hp]
  todo := by rw [← List.drop_drop, ← List.drop_drop, h.todo]
theorem Kept.keep {α : Type} {p : α → Bool} {l cur : List α} {i j : Nat} (h : Kept p l cur i j) (hj : j < l.length) (hp : p l[j] = false) : Kept p l (cur.set i l[j]) (i + 1) (j + 1) where
  len := by rw [List.length_set]; exact h.len
  lt := Nat.succ_lt_succ h.lt
  le := hj
  done := by
    have hi : i < cur.length := by have := h.len; have := h.lt; omega
    rw [List.take_set, List.take_succ_eq_append_getElem hi, List.set_append_right _ _ (by rw [List.length_take]; omega), List.length_take, show i - min i cur.length = 0 from by omega, h.done, List.take_succ_eq_append_getElem hj, List.filter_append]
    simp [hp]
  todo := by
    rw [List.drop_set_of_lt (by have := h.lt; omega), ← List.drop_drop, ← List.drop_drop, h.todo]
theorem Kept.all {α : Type} {p : α → Bool} {l cur : List α} {i : Nat} (h : Kept p l cur i l.length) : cur.take i = l.filter (fun x => !p x) := by rw [h.done, List.take_length]
end Go.Proofs.YtcnebfmlelcliaaGreat
