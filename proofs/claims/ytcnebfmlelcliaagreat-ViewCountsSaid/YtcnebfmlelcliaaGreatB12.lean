/- copy: walked. -/
import Derived.Test.YtcnebfmlelcliaaGreatB11
namespace Go.Proofs.YtcnebfmlelcliaaGreat
set_option linter.unusedSimpArgs false
open Go.RowKit
attribute [local go_sem ↓] Go.wp_at_zero Go.wp_at_succ

theorem Zoo.nilRow {α : Type} (R : RT α) {W0 W : World} {L : List Th} (h : Zoo W0 W L) : Zoo W0 W (R.row (.slice none 0 0) [] :: L) := h.newRow (R := R) (Below.refl _ _) (RT.Own.nil R W) (fun g hg => by cases hg)
set_option maxRecDepth 100000 in
set_option maxHeartbeats 16000000 in
theorem copy_any {W0 W : World} {wb : Nat} {k : WkV} {m : Ml} {q : Rq} {y : RqV} {o : Oc} (hz : Zoo W0 W (workL wb k m q y o)) (hk : WkOk k m) (hs : Sized1 m) (hnx : ∀ b ∈ m.boxes, b.next ≤ 4294967296) (hin : RqIn W0 q y) (hq : RqSz q) (ho : o.uids.length ≤ 10000) :
    Calls Tryz.prog 43 #[.pointer (some ⟨wb, 0, none⟩)] W (WkRet W0 wb q y (copyM m q o)) := by
  have hnamed := Lib.hid (named_any hz hk hs.boxes)
  clear hz
  go_enter Tryz.func43, Tryz.ntmps43
  go_wp2_with fail
  refine hnamed.out.mono ?_
  rintro e w3 ⟨hz3, hb3, hres⟩
  clear hnamed hb3
  rcases namedI_cases m q with hn | ⟨i, hn, hi⟩
  · rw [hn] at hres
    dsimp only at hres
    subst hres
    have hr : Hid (copyM m q o = (6, m, o)) := Lib.hid (by unfold copyM; rw [hn])
    replace hk := Lib.hid hk
    clear hn hs hin hq ho
    go_wp2_with fail
    go_ret
    exact WkRet.of hr.out ⟨k, rfl, hk, hz3⟩
  · rw [hn] at hres
    dsimp only at hres
    obtain ⟨g, hg, rfl⟩ := hres
    have hil : i < k.bs.length := by rw [hk.len]; exact hi
    have hgm := hk.get hil
    obtain ⟨x, hx⟩ : ∃ x, k.bs[i] = x := ⟨_, rfl⟩
    rw [hx] at hgm
    have hxm : x ∈ k.bs := by rw [← hx]; exact List.getElem_mem hil
    have hxb : x.b ∈ m.boxes := List.mem_of_getElem? hgm
    have hxl : x.rows.length ≤ 10000 := by have := hs.letters _ hxb; rwa [bx_len] at this
    have hxf : Hid (∀ z ∈ x.rows, z.x.flags.length ≤ 10000) := Lib.hid (fun z hz => hs.flags _ hxb z.x (List.mem_map_of_mem (f := LtV.x) hz))
    have hat := Lib.hid (workAt hz3.out.drew hk hs.boxes q.to_)
    obtain ⟨hbx, -⟩ := hz3.out.drew.box 0 rfl
    have k0 : w3.drew.cell? ⟨wb, 0, none⟩ = some (.slice k.ab k.bs.length k.cb) := box_cell hbx 0
    have k1 : w3.drew.cell? ⟨wb, 1, none⟩ = some (.int .u64 m.nv) := box_cell hbx 1
    have k2 : w3.drew.cell? ⟨wb, 2, none⟩ = some (.slice k.ah m.homes.length k.ch) := box_cell hbx 2
    have k3 : w3.drew.cell? ⟨wb, 3, none⟩ = some (.slice k.as_ m.seats.length k.cs) := box_cell hbx 3
    have k4 : w3.drew.cell? ⟨wb, 4, none⟩ = some (.int .u64 m.ns) := box_cell hbx 4
    have k5 : w3.drew.cell? ⟨wb, 5, none⟩ = some (.int .u64 m.sweeps) := box_cell hbx 5
    have k13 : w3.drew.cell? ⟨wb, 13, none⟩ = some (.string q.to_) := box_cell hbx 13
    replace hn := Lib.hid hn
    replace hgm := Lib.hid hgm
    replace hk := Lib.hid hk
    replace hg := Lib.hid hg
    replace hx := Lib.hid hx
    replace hxm := Lib.hid hxm
    replace hin := Lib.hid hin
    replace hq := Lib.hid hq
    replace hs := Lib.hid hs
    replace hnx := Lib.hid hnx
    have hz3d := Lib.hid hz3.out.drew
    clear hbx hi hz3 hxb
    go_wp2_with fail
    refine wp_region_hd (fun w' => w'.cell? ⟨wb, 0, none⟩ = some (.slice k.ab k.bs.length k.cb) ∧ w'.cell? ⟨wb, 1, none⟩ = some (.int .u64 m.nv) ∧ w'.cell? ⟨wb, 2, none⟩ = some (.slice k.ah m.homes.length k.ch) ∧ w'.cell? ⟨wb, 3, none⟩ = some (.slice k.as_ m.seats.length k.cs) ∧ w'.cell? ⟨wb, 4, none⟩ = some (.int .u64 m.ns) ∧ w'.cell? ⟨wb, 5, none⟩ = some (.int .u64 m.sweeps) ∧ w'.cell? ⟨wb, 13, none⟩ = some (.string q.to_)) 10 1 (by kernel_rfl) rfl ⟨by kernel_rfl, by kernel_rfl, by kernel_rfl, by decide⟩ ⟨k0, k1, k2, k3, k4, k5, k13⟩ (fun hok hS0 => ?_)
    refine Hd.take (i := 0) (v := ?tv106) hok rfl (by kernel_rfl) (fun _ _ _ h => h) (Or.inl ⟨by rfl, ?ty106⟩) (by assumption) ?tr106
    case ty106 => (intro w hSw; (try dsimp only at hSw); go_simp; (try with_reducible rfl))
    try simp only [List.getElem_toArray, List.getElem_cons_succ, List.getElem_cons_zero, Act.put, List.setIfInBounds_toArray, List.set_cons_zero, List.set_cons_succ]
    refine Hd.take (i := 1) (v := ?tv107) hok rfl (by kernel_rfl) (fun _ _ _ h => h) (Or.inl ⟨by rfl, ?ty107⟩) (by assumption) ?tr107
    case ty107 => (intro w hSw; (try dsimp only at hSw); go_simp; (try with_reducible rfl))
    try simp only [List.getElem_toArray, List.getElem_cons_succ, List.getElem_cons_zero, Act.put, List.setIfInBounds_toArray, List.set_cons_zero, List.set_cons_succ]
    refine Hd.take (i := 2) (v := ?tv108) hok rfl (by kernel_rfl) (fun _ _ _ h => h) (Or.inl ⟨by rfl, ?ty108⟩) (by assumption) ?tr108
    case ty108 => (intro w hSw; (try dsimp only at hSw); go_simp; (try with_reducible rfl))
    try simp only [List.getElem_toArray, List.getElem_cons_succ, List.getElem_cons_zero, Act.put, List.setIfInBounds_toArray, List.set_cons_zero, List.set_cons_succ]
    refine Hd.take (i := 3) (v := ?tv109) hok rfl (by kernel_rfl) (fun _ _ _ h => h) (Or.inl ⟨by rfl, ?ty109⟩) (by assumption) ?tr109
    case ty109 => (intro w hSw; (try dsimp only at hSw); go_simp; (try with_reducible rfl))
    try simp only [List.getElem_toArray, List.getElem_cons_succ, List.getElem_cons_zero, Act.put, List.setIfInBounds_toArray, List.set_cons_zero, List.set_cons_succ]
    refine Hd.take (i := 4) (v := ?tv110) hok rfl (by kernel_rfl) (fun _ _ _ h => h) (Or.inl ⟨by rfl, ?ty110⟩) (by assumption) ?tr110
    case ty110 => (intro w hSw; (try dsimp only at hSw); go_simp; (try with_reducible rfl))
    try simp only [List.getElem_toArray, List.getElem_cons_succ, List.getElem_cons_zero, Act.put, List.setIfInBounds_toArray, List.set_cons_zero, List.set_cons_succ]
    refine Hd.take (i := 5) (v := ?tv111) hok rfl (by kernel_rfl) (fun _ _ _ h => h) (Or.inl ⟨by rfl, ?ty111⟩) (by assumption) ?tr111
    case ty111 => (intro w hSw; (try dsimp only at hSw); go_simp; (try with_reducible rfl))
    try simp only [List.getElem_toArray, List.getElem_cons_succ, List.getElem_cons_zero, Act.put, List.setIfInBounds_toArray, List.set_cons_zero, List.set_cons_succ]
    refine Hd.take (i := 6) (v := ?tv112) hok rfl (by kernel_rfl) (fun _ _ _ h => h) (Or.inl ⟨by rfl, ?ty112⟩) (by assumption) ?tr112
    case ty112 => (intro w hSw; (try dsimp only at hSw); go_simp; (try with_reducible rfl))
    try simp only [List.getElem_toArray, List.getElem_cons_succ, List.getElem_cons_zero, Act.put, List.setIfInBounds_toArray, List.set_cons_zero, List.set_cons_succ]
    refine Hd.take (i := 7) (v := ?tv113) hok rfl (by kernel_rfl) (fun _ _ _ h => h) (Or.inl ⟨by rfl, ?ty113⟩) (by assumption) ?tr113
    case ty113 => (intro w hSw; (try dsimp only at hSw); go_simp; (try with_reducible rfl))
    try simp only [List.getElem_toArray, List.getElem_cons_succ, List.getElem_cons_zero, Act.put, List.setIfInBounds_toArray, List.set_cons_zero, List.set_cons_succ]
    refine Hd.take (i := 8) (v := ?tv114) hok rfl (by kernel_rfl) (fun _ _ _ h => h) (Or.inl ⟨by rfl, ?ty114⟩) (by assumption) ?tr114
    case ty114 => (intro w hSw; (try dsimp only at hSw); go_simp; (try with_reducible rfl))
    try simp only [List.getElem_toArray, List.getElem_cons_succ, List.getElem_cons_zero, Act.put, List.setIfInBounds_toArray, List.set_cons_zero, List.set_cons_succ]
    refine Hd.one (i := 9) rfl (by kernel_rfl) (fun K hK => ?_)
    go_simp
    refine hat.out.mono ?_
    rintro e w4 ⟨rfl, hb4⟩
    dsimp only
    have hz4 := hz3d.out.below hb4.out
    obtain ⟨hbx, -⟩ := hz4.box 0 rfl
    clear k0 k1 k2 k3 k4 k5 k13
    have k0 : w4.cell? ⟨wb, 0, none⟩ = some (.slice k.ab k.bs.length k.cb) := box_cell hbx 0
    have k1 : w4.cell? ⟨wb, 1, none⟩ = some (.int .u64 m.nv) := box_cell hbx 1
    have k2 : w4.cell? ⟨wb, 2, none⟩ = some (.slice k.ah m.homes.length k.ch) := box_cell hbx 2
    have k3 : w4.cell? ⟨wb, 3, none⟩ = some (.slice k.as_ m.seats.length k.cs) := box_cell hbx 3
    have k4 : w4.cell? ⟨wb, 4, none⟩ = some (.int .u64 m.ns) := box_cell hbx 4
    have k5 : w4.cell? ⟨wb, 5, none⟩ = some (.int .u64 m.sweeps) := box_cell hbx 5
    have k13 : w4.cell? ⟨wb, 13, none⟩ = some (.string q.to_) := box_cell hbx 13
    refine hK _ _ ⟨k0, k1, k2, k3, k4, k5, k13⟩ ?_
    clear hK K
    try simp only [List.getElem_toArray, List.getElem_cons_succ, List.getElem_cons_zero, Act.put, List.setIfInBounds_toArray, List.set_cons_zero, List.set_cons_succ]
    refine Hd.done (by kernel_rfl) ?_
    simp only [List.drop_succ_cons, List.drop_zero]
    clear hat hz3d hok hS0 hb4 hbx k0 k1 k2 k3 k4 k5 k13
    unfold atM
    rcases findIdx_cases (fun x : Bx => x.name.toList == q.to_.toList) m.boxes with ⟨e1, e2⟩ | ⟨t, ht, e1, e2⟩
    · rw [e2]
      have hr : Hid (copyM m q o = (21, m, o)) := Lib.hid (by unfold copyM; rw [hn.out]; dsimp only; rw [hgm.out]; dsimp only; rw [e1])
      replace hz4 := Lib.hid hz4
      clear e2 e1
      go_wp2_with fail
      go_ret
      exact WkRet.of hr.out ⟨k, rfl, hk, hz4⟩
    · rw [e2]
      have htl : t < k.bs.length := by rw [hk.out.len]; exact ht
      have hgt := hk.out.get htl
      obtain ⟨d, hd⟩ : ∃ d, k.bs[t] = d := ⟨_, rfl⟩
      rw [hd] at hgt
      have hr0 : Hid (copyM m q o = (if (x.rows.map LtV.x).filter (meantB (x.rows.map LtV.x) q) = [] then (0, m, { o with validity := d.validity })
          else if 32 < d.rows.length + ((x.rows.map LtV.x).filter (meantB (x.rows.map LtV.x) q)).length then (7, m, { o with validity := d.validity })
          else if 4294967296 < d.next + ((x.rows.map LtV.x).filter (meantB (x.rows.map LtV.x) q)).length ∨ 9223372036854775807 ≤ d.high then (13, m, { o with validity := d.validity })
          else (0, setM m t (copied d.b ((x.rows.map LtV.x).filter (meantB (x.rows.map LtV.x) q))), { o with validity := d.validity, uids := o.uids ++ List.range' d.next ((x.rows.map LtV.x).filter (meantB (x.rows.map LtV.x) q)).length }))) := Lib.hid (by
        unfold copyM
        rw [hn.out]; dsimp only; rw [hgm.out]; dsimp only; rw [e1]; dsimp only; rw [hgt]; dsimp only; rw [bx_len]
        rfl)
      obtain ⟨g', hg', hglt, hbox, hfr⟩ := work_box hz4 rfl hil
      obtain rfl : g = g' := by have h := hg.out.symm.trans hg'; injection h with h; injection h
      have hrow := work_let0 (wb := wb) (m := m) (q := q) (y := y) (o := o) i hil
      have hrd := (hz4.own (i + 7) hrow).rd
      rw [hx.out] at hbox hrd
      have b4 := hbox.c4
      have hmeant := Lib.hid (meant_any (wb := wb) (g := g) (i := i) hbox.c4 hrd (by omega))
      replace e1 := Lib.hid e1
      replace hd := Lib.hid hd
      replace hgt := Lib.hid hgt
      replace hz4 := Lib.hid hz4
      have ht0 : ¬ ((t : Int) < 0) := by omega
      clear e2 hg' hbox hfr hrow hrd e1 hgm hn
      go_wp2_with fail
      refine hmeant.out.mono ?_
      rintro e w5 ⟨c, dd, rfl, hcd, hb5⟩
      have hz5 := (hz4.out.cap hcd.out hb5.out).nilRow ltT
      obtain ⟨g', hg', -, hbox, hfr⟩ := work_box hz5.tail.tail rfl hil
      obtain rfl : g = g' := by have h := hg.out.symm.trans hg'; injection h with h; injection h
      rw [hx.out] at hbox
      have b4 := hbox.c4
      replace hz5 := Lib.hid hz5
      clear hmeant hz4 hcd hb5 hg' hbox hfr
      go_wp2_with fail
      go_loopw [40, 6] (fun v40 v6 wr => ∃ (j : Nat) (a : Option Addr) (cc : Nat) (out : List LtV), v40 = .int .i64 j ∧ v6 = .slice a out.length cc ∧ j ≤ x.rows.length ∧ Hid (out = (x.rows.take j).filter (fun z => meantB (x.rows.map LtV.x) q z.x)) ∧ Hid (Zoo W0 wr (ltT.row (.slice a out.length cc) out :: capT c dd wb (mostB (x.rows.map LtV.x)) :: workL wb k m q y o))) (fun v40 _ _ => x.rows.length - (intOf v40).toNat)
      case atStart => exact ⟨0, none, 0, [], rfl, rfl, Nat.zero_le _, Lib.hid rfl, hz5⟩
      case round =>
        clear hz5 b4
        obtain ⟨j, a, cc, out, rfl, rfl, hj, hout, hz⟩ := hrel
        have hol : Hid (out.length ≤ 10000) := Lib.hid (by
          have h1 : out.length ≤ (x.rows.take j).length := by rw [hout.out]; exact List.length_filter_le _ _
          rw [List.length_take] at h1
          omega)
        by_cases hlt : j < x.rows.length
        · have hrow := work_let0 (wb := wb) (k := k) (m := m) (q := q) (y := y) (o := o) i hil
          rw [hx.out] at hrow
          obtain ⟨gl, cap', hv, -, hgl, hcells⟩ := (hz.out.own (i + 9) hrow).cells hlt
          injection hv with hv1 hv2 hv3
          obtain ⟨z, hzx⟩ : ∃ z, x.rows[j] = z := ⟨_, rfl⟩
          rw [hzx] at hcells
          have r0 : wr.cell? ⟨gl, j * 5, none⟩ = some (.int .u64 z.x.uid) := hcells 0 (by decide)
          have r1 : wr.cell? ⟨gl, j * 5 + 1, none⟩ = some (.slice z.a z.x.flags.length z.c) := hcells 1 (by decide)
          have r2 : wr.cell? ⟨gl, j * 5 + 2, none⟩ = some (.int .u64 z.x.mod) := hcells 2 (by decide)
          have r3 : wr.cell? ⟨gl, j * 5 + 3, none⟩ = some (.string z.x.hash) := hcells 3 (by decide)
          have r4 : wr.cell? ⟨gl, j * 5 + 4, none⟩ = some (.int .u64 z.x.size) := hcells 4 (by decide)
          have hzb := hz.out.newBox [.int .u64 z.x.uid, .slice z.a z.x.flags.length z.c, .int .u64 z.x.mod, .string z.x.hash, .int .u64 z.x.size].toArray 66
          have hcall := meant1_any z c dd wb q.uids y.au y.cu (mostB (x.rows.map LtV.x)) (hzb.capOf 2 rfl).1 (box_cell (hzb.box 3 rfl).1 15) (hzb.capOf 2 rfl).2 (RqIn.below hin.out hzb.bel).1 hq.out.ul
          replace hcall : Calls Tryz.prog 100 #[.agg #[.int .u64 z.x.uid, .slice z.a z.x.flags.length z.c, .int .u64 z.x.mod, .string z.x.hash, .int .u64 z.x.size], .pointer (some ⟨c, 0, none⟩), .pointer (some ⟨dd, 0, none⟩)] (wr.alloc (.cells #[.int .u64 z.x.uid, .slice z.a z.x.flags.length z.c, .int .u64 z.x.mod, .string z.x.hash, .int .u64 z.x.size] 66)) fun e w' => e = .returned (.bool (meantB (x.rows.map LtV.x) q z.x)) ∧ Hid (Below (wr.alloc (.cells #[.int .u64 z.x.uid, .slice z.a z.x.flags.length z.c, .int .u64 z.x.mod, .string z.x.hash, .int .u64 z.x.size] 66)).heap.size (wr.alloc (.cells #[.int .u64 z.x.uid, .slice z.a z.x.flags.length z.c, .int .u64 z.x.mod, .string z.x.hash, .int .u64 z.x.size] 66)) w') := hcall
          have hl1 : (j : Int) < (x.rows.length : Int) := by omega
          have hno : Hid (meantB (x.rows.map LtV.x) q z.x = false → out = (x.rows.take (j + 1)).filter (fun z => meantB (x.rows.map LtV.x) q z.x)) := Lib.hid (fun h => by
            rw [List.take_succ_eq_append_getElem hlt, List.filter_append, ← hout.out, hzx]; simp [h])
          have hyes : Hid (meantB (x.rows.map LtV.x) q z.x = true → out ++ [z] = (x.rows.take (j + 1)).filter (fun z => meantB (x.rows.map LtV.x) q z.x)) := Lib.hid (fun h => by
            rw [List.take_succ_eq_append_getElem hlt, List.filter_append, ← hout.out, hzx]; simp [h])
          replace hcall := Lib.hid hcall
          replace hzb := Lib.hid hzb
          clear hcells hrow hzx hv2 hv3 hz hout
          generalize x.rows.map LtV.x = ls at *
          go_wp2_with fail
          refine hcall.out.mono ?_
          rintro e w1 ⟨rfl, hb1⟩
          have hz2 := hzb.out.below hb1.out
          generalize hB : wr.heap.size = Lb at hz2 ⊢
          clear r0 r1 r2 r3 r4 hb1 hzb hcall hB
          cases hgz : meantB ls q z.x with
          | false =>
            have e := Lib.hid (hno.out hgz)
            have hz3 := Lib.hid hz2.tail
            clear hno hyes hgz hz2 hv1
            go_wp2_with fail
            go_roundw
            case rel => exact ⟨j + 1, a, cc, out, by go_num, rfl, by omega, e, hz3⟩
            case measure => simp [intOf] <;> omega
          | true =>
            have e := Lib.hid (hyes.out hgz)
            obtain ⟨hbL, -⟩ := hz2.box 0 rfl
            have l0 : w1.cell? ⟨Lb, 0, none⟩ = some (.int .u64 z.x.uid) := box_cell hbL 0
            have l1 : w1.cell? ⟨Lb, 1, none⟩ = some (.slice z.a z.x.flags.length z.c) := box_cell hbL 1
            have l2 : w1.cell? ⟨Lb, 2, none⟩ = some (.int .u64 z.x.mod) := box_cell hbL 2
            have l3 : w1.cell? ⟨Lb, 3, none⟩ = some (.string z.x.hash) := box_cell hbL 3
            have l4 : w1.cell? ⟨Lb, 4, none⟩ = some (.int .u64 z.x.size) := box_cell hbL 4
            have hzA := hz2.tail.alloc (.cells (ltT.enc z).toArray 66)
            have hown1 := Lib.hid (RT.Own.one ltT w1 z w1.heap.size rfl).rd
            obtain ⟨F, ⟨ho1, hF⟩, -, hact⟩ := hzA.act 0 (ltT.row (.slice a out.length cc) out) rfl
            replace ho1 := Lib.hid ho1
            replace hF := Lib.hid hF
            replace hact := Lib.hid hact
            clear hno hyes hgz hz2 hzA hv1 hbL
            go_wp2_with (at_builtin; refine ltT.wpList_append rfl (.tmp 47) (.tmp 49) rfl _ _ out [z] rfl rfl ho1.out hown1.out (by rw [List.length_singleton]; have := hol.out; omega) ?_)
            intro v8 w8 ho8 hg8 hat8
            have hz8 := hact.out (ltT.row v8 (out ++ [z])) (fun k => v8.ownBlock = some k) w8 ⟨ho8, fun _ => Iff.rfl⟩ (grows_row hF.out hg8 (fun g hg => (hat8 g hg).imp_right (fun h => by simpa using h)))
            obtain ⟨a8, c8, hv8⟩ := ho8.len
            subst hv8
            replace hz8 := Lib.hid hz8
            clear hact ho8 hg8 hat8 ho1 hF hown1 l0 l1 l2 l3 l4
            go_wp2_with fail
            go_roundw
            case rel => exact ⟨j + 1, a8, c8, out ++ [z], by go_num, rfl, by omega, e, hz8⟩
            case measure => simp [intOf] <;> omega
        · obtain rfl : j = x.rows.length := by omega
          rw [List.take_length] at hout
          have hl1 : (x.rows.length : Int) ≤ (x.rows.length : Int) := by omega
          have houtm : Hid ((x.rows.map LtV.x).filter (meantB (x.rows.map LtV.x) q) = out.map LtV.x) := Lib.hid (by rw [hout.out, List.filter_map]; rfl)
          have houtS : Hid (HasL k.S out) := Lib.hid (fun z hz => by
            rw [hout.out] at hz
            exact hk.out.2 x hxm.out z (List.mem_filter.1 hz).1)
          have houtF : Hid (∀ z ∈ out, z.x.flags.length ≤ 10000) := Lib.hid (fun z hz => by
            rw [hout.out] at hz
            exact hxf.out z (List.mem_filter.1 hz).1)
          rw [houtm.out, List.length_map] at hr0
          obtain ⟨hbx, -⟩ := hz.out.box 2 rfl
          have k0 : wr.cell? ⟨wb, 0, none⟩ = some (.slice k.ab k.bs.length k.cb) := box_cell hbx 0
          have k25 : wr.cell? ⟨wb, 25, none⟩ = some (.int .u64 o.validity) := box_cell hbx 25
          have f25 := box_free hbx 25
          obtain ⟨g', hg', hglt, hbox, hfr⟩ := work_box hz.out.tail.tail rfl htl
          obtain rfl : g = g' := by have h := hg.out.symm.trans hg'; injection h with h; injection h
          rw [hd.out] at hbox
          rw [hg'] at k0
          obtain ⟨b0, b1, b2, b3, b4⟩ := hbox
          have f3 := hfr (t * 5 + 3)
          have hdb : d.b ∈ m.boxes := List.mem_of_getElem? hgt.out
          have hdn : d.next ≤ 4294967296 := hnx.out d.b hdb
          have hdl : d.rows.length ≤ 10000 := by have := hs.out.letters _ hdb; rwa [bx_len] at this
          have hol' := hol.out
          have ht1 : (0 : Int) ≤ (t : Int) := by omega
          have ht2 : (t : Int) < (k.bs.length : Int) := by omega
          have hzC : Zoo W0 (wr.setCell ⟨wb, 25, none⟩ (.int .u64 d.validity)) (ltT.row (.slice a out.length cc) out :: capT c dd wb (mostB (x.rows.map LtV.x)) :: workL wb k m q y { o with validity := d.validity }) := hz.out.setBox 2 rfl 25 (.int .u64 d.validity)
          replace hzC := Lib.hid hzC
          clear hbx hg' hfr hxf hout hdb
          by_cases h0 : out.length = 0
          · have hr : Hid (copyM m q o = (0, m, { o with validity := d.validity })) := Lib.hid (by rw [hr0.out, if_pos (by rw [List.eq_nil_of_length_eq_zero h0]; rfl)])
            have h0' : ((out.length : Int) == 0) = true := beq_iff_eq.2 (by omega)
            replace hzC := Lib.hid hzC.out.tail.tail
            clear hr0 h0
            go_wp2_with fail
            go_ret
            exact WkRet.of hr.out ⟨k, rfl, hk, hzC⟩
          · have h0' : ((out.length : Int) == 0) = false := beq_eq_false_iff_ne.2 (by omega)
            have hne : Hid (¬ out.map LtV.x = []) := Lib.hid (fun h => h0 (by rw [← List.length_map (f := LtV.x), h]; rfl))
            clear h0
            by_cases h32 : 32 < d.rows.length + out.length
            · have hr : Hid (copyM m q o = (7, m, { o with validity := d.validity })) := Lib.hid (by rw [hr0.out, if_neg hne.out, if_pos h32])
              have h32' : (32 : Int) < (d.rows.length : Int) + (out.length : Int) := by omega
              replace hzC := Lib.hid hzC.out.tail.tail
              clear hr0
              go_wp2_with fail
              go_ret
              exact WkRet.of hr.out ⟨k, rfl, hk, hzC⟩
            · have h32' : ¬ (32 : Int) < (d.rows.length : Int) + (out.length : Int) := by omega
              by_cases hn1 : 4294967296 < d.next + out.length
              · have hr : Hid (copyM m q o = (13, m, { o with validity := d.validity })) := Lib.hid (by rw [hr0.out, if_neg hne.out, if_neg h32, if_pos (.inl hn1)])
                have hn1' : (4294967296 : Int) < (d.next : Int) + (out.length : Int) := by omega
                replace hzC := Lib.hid hzC.out.tail.tail
                clear hr0 hn1
                go_wp2_with fail
                go_ret
                exact WkRet.of hr.out ⟨k, rfl, hk, hzC⟩
              · have hn1' : decide ((4294967296 : Int) < (d.next : Int) + (out.length : Int)) = false := decide_eq_false (by omega)
                by_cases hhi : 9223372036854775807 ≤ d.high
                · have hr : Hid (copyM m q o = (13, m, { o with validity := d.validity })) := Lib.hid (by rw [hr0.out, if_neg hne.out, if_neg h32, if_pos (.inr hhi)])
                  have hhi' : (9223372036854775807 : Int) ≤ (d.high : Int) := by omega
                  replace hzC := Lib.hid hzC.out.tail.tail
                  clear hr0 hn1 hhi
                  go_wp2_with fail
                  go_ret
                  exact WkRet.of hr.out ⟨k, rfl, hk, hzC⟩
                · have hhi' : decide ((9223372036854775807 : Int) ≤ (d.high : Int)) = false := decide_eq_false (by omega)
                  have hhi3 : d.high + 1 < 18446744073709551616 := by omega
                  have hr := Lib.hid hr0.out
                  rw [if_neg hne.out, if_neg h32, if_neg (fun h => h.elim hn1 hhi)] at hr
                  obtain ⟨gl, cap', hv, -, -, -⟩ := (hzC.out.own 0 rfl).cells (show 0 < out.length by
                    have h := h0'
                    rcases Nat.eq_zero_or_pos out.length with h1 | h1
                    · rw [h1] at h; cases h
                    · exact h1)
                  injection hv with hv1 hv2 hv3
                  subst hv1
                  clear hv2 hv3 cap'
                  have hn1'' : d.next + out.length ≤ 4294967296 := by omega
                  have h32'' : d.rows.length + out.length ≤ 32 := by omega
                  have hzD := work_storeL' (E := [ltT.row (.slice (some ⟨gl, 0, none⟩) out.length cc) out]) htl { d with high := d.high + 1 } (hzC.out.sub (List.Sublist.cons_cons _ (List.Sublist.cons _ (List.Sublist.refl _)))) (by rw [hd.out]) (by rw [hd.out]; rfl) hg.out 3 (by decide) (.int .u64 ((d.high : Int) + 1)) (by rw [hd.out]; rfl)
                  have hc0 : ({ d with high := d.high + 1 } : BxV).b = copied d.b ((out.take 0).map LtV.x) := by
                    unfold copied BxV.b
                    simp [copyL]
                  have hcp0 : Hid (CpSt k m t d.b out (setB k t { d with high := d.high + 1 }) 0) := Lib.hid ⟨by
                    rw [← hc0]
                    exact hk.out.set _ (hk.out.2 d (by rw [← hd.out]; exact List.getElem_mem htl)), rfl, houtS.out, Nat.zero_le _⟩
                  replace hzD : Hid (Zoo W0 ((wr.setCell ⟨wb, 25, none⟩ (.int .u64 d.validity)).setCell ⟨g, t * 5 + 3, none⟩ (.int .u64 ((d.high : Int) + 1))) (ltT.row (.slice (some ⟨gl, 0, none⟩) out.length cc) out :: workL wb (setB k t { d with high := d.high + 1 }) (setM m t (copied d.b ((out.take 0).map LtV.x))) q y { o with validity := d.validity, uids := o.uids ++ List.range' d.next 0 })) := Lib.hid (by
                    rw [← hc0, show List.range' d.next 0 = [] from rfl, List.append_nil]
                    exact hzD)
                  clear hzC hc0 hr0 hn1 hhi h32 hne houtS hk hd
                  go_wp2_with fail
                  clear b0 b1 b2 b3 b4 k0 k25 f25 f3 h32' hn1' hhi' h0' hglt
                  generalize (wr.setCell ⟨wb, 25, none⟩ (.int .u64 d.validity)).setCell ⟨g, t * 5 + 3, none⟩ (.int .u64 ((d.high : Int) + 1)) = WD at hzD ⊢
                  go_loopw [107] (fun v107 wr => ∃ (j : Nat) (k2 : WkV), v107 = .int .i64 j ∧ j ≤ out.length ∧ Hid (CpSt k m t d.b out k2 j) ∧ Hid (Zoo W0 wr (ltT.row (.slice (some ⟨gl, 0, none⟩) out.length cc) out :: workL wb k2 (setM m t (copied d.b ((out.take j).map LtV.x))) q y { o with validity := d.validity, uids := o.uids ++ List.range' d.next j }))) (fun v107 _ => out.length - (intOf v107).toNat)
                  case atStart => exact ⟨0, _, rfl, Nat.zero_le _, hcp0, hzD⟩
                  case round =>
                    clear hcp0 hzD
                    obtain ⟨j, k2, rfl, hj, hcp, hz⟩ := hrel
                    by_cases hlt : j < out.length
                    · obtain ⟨hl2, hx2b⟩ := hcp.out.at_ ht
                      obtain ⟨x2, hx2⟩ : ∃ x2, k2.bs[t] = x2 := ⟨_, rfl⟩
                      rw [hx2] at hx2b
                      have hg2 : k2.ab = some ⟨g, 0, none⟩ := hcp.out.ab.trans hg.out
                      have hlj : ((out.take j).map LtV.x).length = j := by rw [List.length_map, List.length_take]; omega
                      have x2n : x2.next = d.next + j := by
                        have h1 := congrArg Bx.next hx2b
                        unfold copied at h1
                        dsimp only at h1
                        rw [hlj] at h1
                        exact h1
                      have x2l : x2.rows.length = d.rows.length + j := by
                        have h1 := congrArg (fun b : Bx => b.letters.length) hx2b
                        unfold copied at h1
                        dsimp only at h1
                        rw [List.length_append, copyL_len, hlj, bx_len, bx_len] at h1
                        exact h1
                      obtain ⟨z, hzx⟩ : ∃ z, out[j] = z := ⟨_, rfl⟩
                      have hzm : z ∈ out := by rw [← hzx]; exact List.getElem_mem hlt
                      have hx4 : ({ x2 with rows := x2.rows ++ [(⟨{ z.x with uid := x2.next, mod := x2.high }, none, 0⟩ : LtV)], next := x2.next + 1 } : BxV).b = copied d.b ((out.take (j + 1)).map LtV.x) := by
                        rw [List.take_succ_eq_append_getElem hlt, hzx, List.map_append, show [z].map LtV.x = [z.x] from rfl, copied_snoc, ← hx2b]
                        unfold BxV.b
                        dsimp only
                        rw [List.map_append]
                        rfl
                      replace hx4 := Lib.hid hx4
                      obtain ⟨gl', cap', hv, -, hgl, hcells⟩ := (hz.out.own 0 rfl).cells hlt
                      injection hv with hv1 hv2 hv3
                      injection hv1 with hv1
                      injection hv1 with hv1
                      subst hv1
                      rw [hzx] at hcells
                      have r0 : wr.cell? ⟨gl, j * 5, none⟩ = some (.int .u64 z.x.uid) := hcells 0 (by decide)
                      have r1 : wr.cell? ⟨gl, j * 5 + 1, none⟩ = some (.slice z.a z.x.flags.length z.c) := hcells 1 (by decide)
                      have r2 : wr.cell? ⟨gl, j * 5 + 2, none⟩ = some (.int .u64 z.x.mod) := hcells 2 (by decide)
                      have r3 : wr.cell? ⟨gl, j * 5 + 3, none⟩ = some (.string z.x.hash) := hcells 3 (by decide)
                      have r4 : wr.cell? ⟨gl, j * 5 + 4, none⟩ = some (.int .u64 z.x.size) := hcells 4 (by decide)
                      have hl1 : (j : Int) < (out.length : Int) := by omega
                      have hzb := hz.out.newBox [.int .u64 z.x.uid, .slice z.a z.x.flags.length z.c, .int .u64 z.x.mod, .string z.x.hash, .int .u64 z.x.size].toArray 66
                      replace hzb := Lib.hid hzb
                      replace hx2 := Lib.hid hx2
                      replace hx2b := Lib.hid hx2b
                      replace hg2 := Lib.hid hg2
                      have hzf := Lib.hid (houtF.out z hzm)
                      have hzS := Lib.hid (hcp.out.has z hzm)
                      have hxn1 : Hid (x2.next + 1 < 18446744073709551616) := Lib.hid (by omega)
                      have hxl1 : Hid (x2.rows.length + 1 ≤ 1000000) := Lib.hid (by omega)
                      have hul1 : Hid ((o.uids ++ List.range' d.next j).length + 1 ≤ 1000000) := Lib.hid (by rw [List.length_append, List.length_range']; omega)
                      have hur : Hid ((o.uids ++ List.range' d.next j) ++ [x2.next] = o.uids ++ List.range' d.next (j + 1)) := Lib.hid (by rw [List.range'_1_concat, x2n, List.append_assoc])
                      clear hcells hv2 hv3 hz hzx hzm hlj x2n x2l hr houtm houtF
                      generalize hus : o.uids ++ List.range' d.next j = us at *
                      replace hus := Lib.hid hus
                      have hok2 := Lib.hid hcp.out.ok
                      have hmj : Hid (∀ b, setM (setM m t (copied d.b ((out.take j).map LtV.x))) t b = setM m t b) := Lib.hid (fun b => setM_set _ _ _ _)
                      generalize setM m t (copied d.b ((out.take j).map LtV.x)) = mj at *
                      go_wp2_with fail
                      generalize hB : wr.heap.size = Lb at hzb ⊢
                      generalize (wr.alloc (.cells #[.int .u64 z.x.uid, .slice z.a z.x.flags.length z.c, .int .u64 z.x.mod, .string z.x.hash, .int .u64 z.x.size] 66)) = Wa at hzb ⊢
                      clear r0 r1 r2 r3 r4 hB hgl
                      have hzd := hzb.out.drew
                      obtain ⟨hbA, -⟩ := bxS hzd.tail.tail rfl hg2.out hl2 x2 hx2.out
                      have l1 : Wa.drew.cell? ⟨Lb, 1, none⟩ = some (.slice z.a z.x.flags.length z.c) := box_cell (hzd.box 0 rfl).1 1
                      have c2 := hbA.c2
                      have c3 := hbA.c3
                      have hcl : Hid (Calls Tryz.prog 26 #[.slice z.a z.x.flags.length z.c] Wa.drew (RowRet flT z.x.flags Wa.drew)) := Lib.hid (cloneFl_any (FlIn.rd (hzd.fl 8 rfl hzS.out)) (by have := hzf.out; omega))
                      clear hbA hzb
                      refine wp_region_hd (fun w' => w'.cell? ⟨g, t * 5 + 2, none⟩ = some (.int .u64 x2.next) ∧ w'.cell? ⟨g, t * 5 + 3, none⟩ = some (.int .u64 x2.high) ∧ w'.cell? ⟨Lb, 1, none⟩ = some (.slice z.a z.x.flags.length z.c)) 13 4 (by kernel_rfl) rfl ⟨by kernel_rfl, by kernel_rfl, by kernel_rfl, by decide⟩ ⟨c2, c3, l1⟩ (fun hok hS0 => ?_)
                      generalize Wa.drew = Wd at *
                      refine Hd.take (i := 0) (v := ?tv115) hok rfl (by kernel_rfl) (fun _ _ _ h => h) (Or.inl ⟨by rfl, ?ty115⟩) (by assumption) ?tr115
                      case ty115 => (intro w hSw; (try dsimp only at hSw); go_simp; (try with_reducible rfl))
                      try simp only [List.getElem_toArray, List.getElem_cons_succ, List.getElem_cons_zero, Act.put, List.setIfInBounds_toArray, List.set_cons_zero, List.set_cons_succ]
                      refine Hd.take (i := 1) (v := ?tv116) hok rfl (by kernel_rfl) (fun _ _ _ h => h) (Or.inl ⟨by rfl, ?ty116⟩) (by assumption) ?tr116
                      case ty116 => (intro w hSw; (try dsimp only at hSw); go_simp; (try with_reducible rfl))
                      try simp only [List.getElem_toArray, List.getElem_cons_succ, List.getElem_cons_zero, Act.put, List.setIfInBounds_toArray, List.set_cons_zero, List.set_cons_succ]
                      refine Hd.take (i := 2) (v := ?tv117) hok rfl (by kernel_rfl) (fun _ _ _ h => h) (Or.inl ⟨by rfl, ?ty117⟩) (by assumption) ?tr117
                      case ty117 => (intro w hSw; (try dsimp only at hSw); go_simp; (try with_reducible rfl))
                      try simp only [List.getElem_toArray, List.getElem_cons_succ, List.getElem_cons_zero, Act.put, List.setIfInBounds_toArray, List.set_cons_zero, List.set_cons_succ]
                      refine Hd.take (i := 3) (v := ?tv118) hok rfl (by kernel_rfl) (fun _ _ _ h => h) (Or.inl ⟨by rfl, ?ty118⟩) (by assumption) ?tr118
                      case ty118 => (intro w hSw; (try dsimp only at hSw); go_simp; (try with_reducible rfl))
                      try simp only [List.getElem_toArray, List.getElem_cons_succ, List.getElem_cons_zero, Act.put, List.setIfInBounds_toArray, List.set_cons_zero, List.set_cons_succ]
                      refine Hd.take (i := 4) (v := ?tv119) hok rfl (by kernel_rfl) (fun _ _ _ h => h) (Or.inl ⟨by rfl, ?ty119⟩) (by assumption) ?tr119
                      case ty119 => (intro w hSw; (try dsimp only at hSw); go_simp; (try with_reducible rfl))
                      try simp only [List.getElem_toArray, List.getElem_cons_succ, List.getElem_cons_zero, Act.put, List.setIfInBounds_toArray, List.set_cons_zero, List.set_cons_succ]
                      refine Hd.take (i := 5) (v := ?tv120) hok rfl (by kernel_rfl) (fun _ _ _ h => h) (Or.inl ⟨by rfl, ?ty120⟩) (by assumption) ?tr120
                      case ty120 => (intro w hSw; (try dsimp only at hSw); go_simp; (try with_reducible rfl))
                      try simp only [List.getElem_toArray, List.getElem_cons_succ, List.getElem_cons_zero, Act.put, List.setIfInBounds_toArray, List.set_cons_zero, List.set_cons_succ]
                      refine Hd.take (i := 6) (v := ?tv121) hok rfl (by kernel_rfl) (fun _ _ _ h => h) (Or.inl ⟨by rfl, ?ty121⟩) (by assumption) ?tr121
                      case ty121 => (intro w hSw; (try dsimp only at hSw); go_simp; (try with_reducible rfl))
                      try simp only [List.getElem_toArray, List.getElem_cons_succ, List.getElem_cons_zero, Act.put, List.setIfInBounds_toArray, List.set_cons_zero, List.set_cons_succ]
                      refine Hd.take (i := 7) (v := ?tv122) hok rfl (by kernel_rfl) (fun _ _ _ h => h) (Or.inl ⟨by rfl, ?ty122⟩) (by assumption) ?tr122
                      case ty122 => (intro w hSw; (try dsimp only at hSw); go_simp; (try with_reducible rfl))
                      try simp only [List.getElem_toArray, List.getElem_cons_succ, List.getElem_cons_zero, Act.put, List.setIfInBounds_toArray, List.set_cons_zero, List.set_cons_succ]
                      refine Hd.take (i := 8) (v := ?tv123) hok rfl (by kernel_rfl) (fun _ _ _ h => h) (Or.inl ⟨by rfl, ?ty123⟩) (by assumption) ?tr123
                      case ty123 => (intro w hSw; (try dsimp only at hSw); go_simp; (try with_reducible rfl))
                      try simp only [List.getElem_toArray, List.getElem_cons_succ, List.getElem_cons_zero, Act.put, List.setIfInBounds_toArray, List.set_cons_zero, List.set_cons_succ]
                      refine Hd.take (i := 9) (v := ?tv124) hok rfl (by kernel_rfl) (fun _ _ _ h => h) (Or.inl ⟨by rfl, ?ty124⟩) (by assumption) ?tr124
                      case ty124 => (intro w hSw; (try dsimp only at hSw); go_simp; (try with_reducible rfl))
                      try simp only [List.getElem_toArray, List.getElem_cons_succ, List.getElem_cons_zero, Act.put, List.setIfInBounds_toArray, List.set_cons_zero, List.set_cons_succ]
                      refine Hd.take (i := 11) (v := ?tv125) hok rfl (by kernel_rfl) (fun _ _ _ h => h) (Or.inl ⟨by rfl, ?ty125⟩) (by assumption) ?tr125
                      case ty125 => (intro w hSw; (try dsimp only at hSw); go_simp; (try with_reducible rfl))
                      try simp only [List.getElem_toArray, List.getElem_cons_succ, List.getElem_cons_zero, Act.put, List.setIfInBounds_toArray, List.set_cons_zero, List.set_cons_succ]
                      refine Hd.one (i := 10) rfl (by kernel_rfl) (fun K hK => ?_)
                      go_simp
                      refine hcl.out.mono ?_
                      rintro e w6 ⟨v6, rfl, ho6, hb6, hf6⟩
                      dsimp only
                      obtain ⟨a6, c6, hv6⟩ := ho6.out.len
                      have hz6 := hzd.addFl 8 rfl hb6.out (FlIn.of_own ho6.out) hf6.out
                      subst hv6
                      replace hz6 : Zoo W0 w6 (boxT Lb [.int .u64 z.x.uid, .slice z.a z.x.flags.length z.c, .int .u64 z.x.mod, .string z.x.hash, .int .u64 z.x.size].toArray 66 :: ltT.row (.slice (some ⟨gl, 0, none⟩) out.length cc) out :: workL wb (addS k2 (.slice a6 z.x.flags.length c6, z.x.flags)) mj q y { o with validity := d.validity, uids := us }) := hz6
                      have hSS : ∀ W' (L : List Value), Zoo W0 W' (boxT Lb L.toArray 66 :: ltT.row (.slice (some ⟨gl, 0, none⟩) out.length cc) out :: workL wb (addS k2 (.slice a6 z.x.flags.length c6, z.x.flags)) mj q y { o with validity := d.validity, uids := us }) → W'.cell? ⟨g, t * 5 + 2, none⟩ = some (.int .u64 x2.next) ∧ W'.cell? ⟨g, t * 5 + 3, none⟩ = some (.int .u64 x2.high) ∧ W'.cell? ⟨Lb, 1, none⟩ = L[1]? := fun W' L h => by
                        have h2 := (bxS (k := addS k2 (.slice a6 z.x.flags.length c6, z.x.flags)) h.tail.tail rfl hg2.out hl2 x2 hx2.out).1
                        exact ⟨h2.c2, h2.c3, (box_cell (h.box 0 rfl).1 1).trans (List.getElem?_toArray ..)⟩
                      replace hSS := Lib.hid hSS
                      refine hK _ _ (hSS.out _ _ hz6) ?_
                      clear hK K c2 c3 l1 hcl ho6 hb6 hf6 hzd
                      try simp only [List.getElem_toArray, List.getElem_cons_succ, List.getElem_cons_zero, Act.put, List.setIfInBounds_toArray, List.set_cons_zero, List.set_cons_succ]
                      have hS : w6.cell? ⟨g, t * 5 + 2, none⟩ = some (.int .u64 x2.next) ∧ w6.cell? ⟨g, t * 5 + 3, none⟩ = some (.int .u64 x2.high) ∧ w6.cell? ⟨Lb, 1, none⟩ = some (.slice z.a z.x.flags.length z.c) := hSS.out _ _ hz6
                      have l0 : w6.cell? ⟨Lb, 0, none⟩ = some (.int .u64 z.x.uid) := box_cell (hz6.box 0 rfl).1 0
                      have fL := box_free (hz6.box 0 rfl).1 0
                      refine Hd.one (i := 12) rfl (by kernel_rfl) (fun K hK => ?_)
                      go_simp
                      have hz7 := hz6.setBox 0 rfl 0 (.int .u64 x2.next)
                      refine hK _ _ (hSS.out _ _ hz7) ?_
                      clear hK K l0 fL hS
                      try simp only [List.getElem_toArray, List.getElem_cons_succ, List.getElem_cons_zero, Act.put, List.setIfInBounds_toArray, List.set_cons_zero, List.set_cons_succ]
                      generalize w6.setCell ⟨Lb, 0, none⟩ (.int .u64 x2.next) = w7 at hz7 ⊢
                      have hS : w7.cell? ⟨g, t * 5 + 2, none⟩ = some (.int .u64 x2.next) ∧ w7.cell? ⟨g, t * 5 + 3, none⟩ = some (.int .u64 x2.high) ∧ w7.cell? ⟨Lb, 1, none⟩ = some (.slice z.a z.x.flags.length z.c) := hSS.out _ _ hz7
                      refine Hd.done (by kernel_rfl) ?_
                      simp only [List.drop_succ_cons, List.drop_zero]
                      have l2 : w7.cell? ⟨Lb, 2, none⟩ = some (.int .u64 z.x.mod) := box_cell (hz7.box 0 rfl).1 2
                      have l1 : w7.cell? ⟨Lb, 1, none⟩ = some (.slice z.a z.x.flags.length z.c) := box_cell (hz7.box 0 rfl).1 1
                      have fL := box_free (hz7.box 0 rfl).1 2
                      have fL1 := box_free (hz7.box 0 rfl).1 1
                      have hz8 := hz7.setBox 0 rfl 2 (.int .u64 x2.high)
                      obtain ⟨z', hz'⟩ : ∃ z' : LtV, (⟨{ z.x with uid := x2.next, mod := x2.high }, a6, c6⟩ : LtV) = z' := ⟨_, rfl⟩
                      have hz9 := hz8.setBox 0 rfl 1 (.slice a6 z.x.flags.length c6)
                      replace hz9 : Zoo W0 ((w7.setCell ⟨Lb, 2, none⟩ (.int .u64 x2.high)).setCell ⟨Lb, 1, none⟩ (.slice a6 z.x.flags.length c6)) (boxT Lb (ltT.enc z').toArray 66 :: ltT.row (.slice (some ⟨gl, 0, none⟩) out.length cc) out :: workL wb (addS k2 (.slice a6 z.x.flags.length c6, z.x.flags)) mj q y { o with validity := d.validity, uids := us }) := by rw [← hz']; exact hz9
                      replace hz9 := Lib.hid hz9
                      replace hz' := Lib.hid hz'
                      clear hz6 hz7 hz8 hok hS0 hSS hS
                      go_wp2_with fail
                      generalize (w7.setCell ⟨Lb, 2, none⟩ (.int .u64 x2.high)).setCell ⟨Lb, 1, none⟩ (.slice a6 z.x.flags.length c6) = w9 at hz9 ⊢
                      clear l1 l2 fL fL1
                      obtain ⟨kA, hkA⟩ : ∃ kA, addS k2 (.slice a6 z.x.flags.length c6, z.x.flags) = kA := ⟨_, rfl⟩
                      have hokA : WkOk kA mj := by rw [← hkA]; exact WkOk.add hok2.out
                      have hlA : t < kA.bs.length := by rw [← hkA]; exact hl2
                      have hxA : kA.bs[t] = x2 := by subst hkA; exact hx2.out
                      have hgA : kA.ab = some ⟨g, 0, none⟩ := by rw [← hkA]; exact hg2.out
                      have hpA : (z'.v, z'.x.flags) ∈ kA.S := by rw [← hkA, ← hz'.out]; exact List.mem_cons_self ..
                      have hSA : HasL kA.S out := by rw [← hkA]; exact fun z hz => List.mem_cons_of_mem _ (hcp.out.has z hz)
                      have hfA : z'.x.flags.length ≤ 10000 := by rw [← hz'.out]; exact hzf.out
                      have hxx : z'.x = { z.x with uid := x2.next, mod := x2.high } := by rw [← hz'.out]
                      have habA : kA.ab = k.ab := hgA.trans hg.out.symm
                      rw [hkA] at hz9
                      replace hokA := Lib.hid hokA
                      replace hxA := Lib.hid hxA
                      replace hgA := Lib.hid hgA
                      replace hpA := Lib.hid hpA
                      replace hSA := Lib.hid hSA
                      replace hxx := Lib.hid hxx
                      replace habA := Lib.hid habA
                      clear hkA hcp hx2 hg2 hzf hzS hz' hl2 hok2
                      have hzd := hz9.out.drew
                      have c4 := (bxS hzd.tail.tail rfl hgA.out hlA x2 hxA.out).1.c4
                      obtain ⟨hbL, -⟩ := hzd.box 0 rfl
                      have l0 : w9.drew.cell? ⟨Lb, 0, none⟩ = some (.int .u64 z'.x.uid) := box_cell hbL 0
                      have l1 : w9.drew.cell? ⟨Lb, 1, none⟩ = some (.slice z'.a z'.x.flags.length z'.c) := box_cell hbL 1
                      have l2 : w9.drew.cell? ⟨Lb, 2, none⟩ = some (.int .u64 z'.x.mod) := box_cell hbL 2
                      have l3 : w9.drew.cell? ⟨Lb, 3, none⟩ = some (.string z'.x.hash) := box_cell hbL 3
                      have l4 : w9.drew.cell? ⟨Lb, 4, none⟩ = some (.int .u64 z'.x.size) := box_cell hbL 4
                      refine wp_region_hd (fun w' => w'.cell? ⟨g, t * 5 + 4, none⟩ = some (.slice x2.a x2.rows.length x2.c) ∧ w'.cell? ⟨Lb, 0, none⟩ = some (.int .u64 z'.x.uid) ∧ w'.cell? ⟨Lb, 1, none⟩ = some (.slice z'.a z'.x.flags.length z'.c) ∧ w'.cell? ⟨Lb, 2, none⟩ = some (.int .u64 z'.x.mod) ∧ w'.cell? ⟨Lb, 3, none⟩ = some (.string z'.x.hash) ∧ w'.cell? ⟨Lb, 4, none⟩ = some (.int .u64 z'.x.size)) 8 3 (by kernel_rfl) rfl ⟨by kernel_rfl, by kernel_rfl, by kernel_rfl, by decide⟩ ⟨c4, l0, l1, l2, l3, l4⟩ (fun hok hS0 => ?_)
                      generalize w9.drew = Wd at *
                      clear hbL
                      refine Hd.take (i := 0) (v := ?tv126) hok rfl (by kernel_rfl) (fun _ _ _ h => h) (Or.inl ⟨by rfl, ?ty126⟩) (by assumption) ?tr126
                      case ty126 => (intro w hSw; (try dsimp only at hSw); go_simp; (try with_reducible rfl))
                      try simp only [List.getElem_toArray, List.getElem_cons_succ, List.getElem_cons_zero, Act.put, List.setIfInBounds_toArray, List.set_cons_zero, List.set_cons_succ]
                      refine Hd.take (i := 1) (v := ?tv127) hok rfl (by kernel_rfl) (fun _ _ _ h => h) (Or.inl ⟨by rfl, ?ty127⟩) (by assumption) ?tr127
                      case ty127 => (intro w hSw; (try dsimp only at hSw); go_simp; (try with_reducible rfl))
                      try simp only [List.getElem_toArray, List.getElem_cons_succ, List.getElem_cons_zero, Act.put, List.setIfInBounds_toArray, List.set_cons_zero, List.set_cons_succ]
                      refine Hd.take (i := 2) (v := ?tv128) hok rfl (by kernel_rfl) (fun _ _ _ h => h) (Or.inl ⟨by rfl, ?ty128⟩) (by assumption) ?tr128
                      case ty128 => (intro w hSw; (try dsimp only at hSw); go_simp; (try with_reducible rfl))
                      try simp only [List.getElem_toArray, List.getElem_cons_succ, List.getElem_cons_zero, Act.put, List.setIfInBounds_toArray, List.set_cons_zero, List.set_cons_succ]
                      refine Hd.take (i := 3) (v := ?tv129) hok rfl (by kernel_rfl) (fun _ _ _ h => h) (Or.inl ⟨by rfl, ?ty129⟩) (by assumption) ?tr129
                      case ty129 => (intro w hSw; (try dsimp only at hSw); go_simp; (try with_reducible rfl))
                      try simp only [List.getElem_toArray, List.getElem_cons_succ, List.getElem_cons_zero, Act.put, List.setIfInBounds_toArray, List.set_cons_zero, List.set_cons_succ]
                      refine Hd.take (i := 4) (v := ?tv130) hok rfl (by kernel_rfl) (fun _ _ _ h => h) (Or.inl ⟨by rfl, ?ty130⟩) (by assumption) ?tr130
                      case ty130 => (intro w hSw; (try dsimp only at hSw); go_simp; (try with_reducible rfl))
                      try simp only [List.getElem_toArray, List.getElem_cons_succ, List.getElem_cons_zero, Act.put, List.setIfInBounds_toArray, List.set_cons_zero, List.set_cons_succ]
                      refine Hd.take (i := 5) (v := ?tv131) hok rfl (by kernel_rfl) (fun _ _ _ h => h) (Or.inl ⟨by rfl, ?ty131⟩) (by assumption) ?tr131
                      case ty131 => (intro w hSw; (try dsimp only at hSw); go_simp; (try with_reducible rfl))
                      try simp only [List.getElem_toArray, List.getElem_cons_succ, List.getElem_cons_zero, Act.put, List.setIfInBounds_toArray, List.set_cons_zero, List.set_cons_succ]
                      refine Hd.one (i := 6) rfl (by kernel_rfl) (fun K hK => ?_)
                      go_simp
                      have hzA := hzd.alloc (.cells (ltT.enc z').toArray 66)
                      refine hK _ _ ⟨cell_old _ c4, cell_old _ l0, cell_old _ l1, cell_old _ l2, cell_old _ l3, cell_old _ l4⟩ ?_
                      clear hK K c4 l0 l1 l2 l3 l4
                      try simp only [List.getElem_toArray, List.getElem_cons_succ, List.getElem_cons_zero, Act.put, List.setIfInBounds_toArray, List.set_cons_zero, List.set_cons_succ]
                      refine Hd.one (i := 7) rfl (by kernel_rfl) (fun K hK => ?_)
                      have hown1 := RT.Own.one ltT Wd z' Wd.heap.size rfl
                      obtain ⟨F, ⟨ho1, hF⟩, -, hact⟩ := hzA.act (t + 9) (ltT.row x2.v x2.rows) (by
                        have := work_let0 (wb := wb) (k := kA) (m := mj) (q := q) (y := y) (o := { o with validity := d.validity, uids := us }) t hlA
                        rw [hxA.out] at this
                        exact this)
                      refine ltT.step_append rfl (.tmp 129) (.tmp 131) rfl _ _ x2.rows [z'] rfl rfl ho1 hown1.rd (by rw [List.length_singleton]; exact hxl1.out) ?_
                      intro v8 w8 ho8 hg8 hat8
                      have hz8 := hact (ltT.row v8 (x2.rows ++ [z'])) (fun k => v8.ownBlock = some k) w8 ⟨ho8, fun _ => Iff.rfl⟩ (grows_row hF hg8 hat8)
                      obtain ⟨a8, c8, hv8⟩ := ho8.len
                      subst hv8
                      have hbx8 := bxS (k := kA) hz8.tail.tail rfl hgA.out hlA x2 hxA.out
                      have c4 := hbx8.1.c4
                      have f4 := hbx8.2 (t * 5 + 4)
                      obtain ⟨hbL, -⟩ := hz8.box 0 rfl
                      refine hK _ _ ⟨c4, box_cell hbL 0, box_cell hbL 1, box_cell hbL 2, box_cell hbL 3, box_cell hbL 4⟩ ?_
                      clear hK K
                      try simp only [List.getElem_toArray, List.getElem_cons_succ, List.getElem_cons_zero, Act.put, List.setIfInBounds_toArray, List.set_cons_zero, List.set_cons_succ]
                      refine Hd.done (by kernel_rfl) ?_
                      simp only [List.drop_succ_cons, List.drop_zero]
                      obtain ⟨x3, hx3e⟩ : ∃ x3 : BxV, { x2 with rows := x2.rows ++ [z'], a := a8, c := c8 } = x3 := ⟨_, rfl⟩
                      have hzB := work_storeL (k := kA) (m := mj) (q := q) (y := y) (o := { o with validity := d.validity, uids := us }) (E := [boxT Lb (ltT.enc z').toArray 66, ltT.row (.slice (some ⟨gl, 0, none⟩) out.length cc) out]) hlA x3 (by rw [← hx3e]; exact hz8) hgA.out 4 (by decide) (.slice a8 (x2.rows ++ [z']).length c8) (by
                        rw [← hx3e, hxA.out]
                        rfl)
                      have hx3S : HasL kA.S x3.rows := by
                        rw [← hx3e]
                        intro z hz
                        rcases List.mem_append.1 hz with h | h
                        · exact hokA.out.2 x2 (by rw [← hxA.out]; exact List.getElem_mem hlA) z h
                        · rw [List.mem_singleton.1 h]; exact hpA.out
                      obtain ⟨kB, mB, hkB, hmB, hokB, hgB, hlB, hxB⟩ := hokA.out.bump hlA x3 hx3S
                      have hSB : HasL kB.S out := by rw [← hkB]; exact hSA.out
                      rw [hkB, hmB] at hzB
                      have hxB' := Lib.hid (hxB hlB)
                      generalize (x2.rows ++ [z']).length = n8 at *
                      replace hzB := Lib.hid hzB
                      replace hokB := Lib.hid hokB
                      replace hgB := Lib.hid (hgB.trans hgA.out)
                      replace hmB := Lib.hid hmB
                      replace hSB := Lib.hid hSB
                      replace hx3e := Lib.hid hx3e
                      clear hx3S hkB hxB hz8 hbx8 hbL ho8 hg8 hat8 hact ho1 hF hown1 hzA hzd hok hS0 hz9
                      go_wp2_with fail
                      generalize w8.setCell ⟨g, t * 5 + 4, none⟩ (.slice a8 n8 c8) = wB at hzB ⊢
                      clear c4 f4
                      have hzd := hzB.out.drew
                      have s26 : wB.drew.cell? ⟨wb, 26, none⟩ = some (.slice kB.aU us.length kB.cU) := box_cell (hzd.box 2 rfl).1 26
                      have sL : wB.drew.cell? ⟨Lb, 0, none⟩ = some (.int .u64 z'.x.uid) := box_cell (hzd.box 0 rfl).1 0
                      refine wp_region_hd (fun w' => w'.cell? ⟨wb, 26, none⟩ = some (.slice kB.aU us.length kB.cU) ∧ w'.cell? ⟨Lb, 0, none⟩ = some (.int .u64 z'.x.uid)) 10 4 (by kernel_rfl) rfl ⟨by kernel_rfl, by kernel_rfl, by kernel_rfl, by decide⟩ ⟨s26, sL⟩ (fun hok hS0 => ?_)
                      generalize wB.drew = Wd at *
                      refine Hd.take (i := 0) (v := ?tv132) hok rfl (by kernel_rfl) (fun _ _ _ h => h) (Or.inl ⟨by rfl, ?ty132⟩) (by assumption) ?tr132
                      case ty132 => (intro w hSw; (try dsimp only at hSw); go_simp; (try with_reducible rfl))
                      try simp only [List.getElem_toArray, List.getElem_cons_succ, List.getElem_cons_zero, Act.put, List.setIfInBounds_toArray, List.set_cons_zero, List.set_cons_succ]
                      refine Hd.take (i := 1) (v := ?tv133) hok rfl (by kernel_rfl) (fun _ _ _ h => h) (Or.inl ⟨by rfl, ?ty133⟩) (by assumption) ?tr133
                      case ty133 => (intro w hSw; (try dsimp only at hSw); go_simp; (try with_reducible rfl))
                      try simp only [List.getElem_toArray, List.getElem_cons_succ, List.getElem_cons_zero, Act.put, List.setIfInBounds_toArray, List.set_cons_zero, List.set_cons_succ]
                      refine Hd.take (i := 2) (v := ?tv134) hok rfl (by kernel_rfl) (fun _ _ _ h => h) (Or.inl ⟨by rfl, ?ty134⟩) (by assumption) ?tr134
                      case ty134 => (intro w hSw; (try dsimp only at hSw); go_simp; (try with_reducible rfl))
                      try simp only [List.getElem_toArray, List.getElem_cons_succ, List.getElem_cons_zero, Act.put, List.setIfInBounds_toArray, List.set_cons_zero, List.set_cons_succ]
                      refine Hd.take (i := 3) (v := ?tv135) hok rfl (by kernel_rfl) (fun _ _ _ h => h) (Or.inl ⟨by rfl, ?ty135⟩) (by assumption) ?tr135
                      case ty135 => (intro w hSw; (try dsimp only at hSw); go_simp; (try with_reducible rfl))
                      try simp only [List.getElem_toArray, List.getElem_cons_succ, List.getElem_cons_zero, Act.put, List.setIfInBounds_toArray, List.set_cons_zero, List.set_cons_succ]
                      refine Hd.take (i := 4) (v := ?tv136) hok rfl (by kernel_rfl) (fun _ _ _ h => h) (Or.inl ⟨by rfl, ?ty136⟩) (by assumption) ?tr136
                      case ty136 => (intro w hSw; (try dsimp only at hSw); go_simp; (try with_reducible rfl))
                      try simp only [List.getElem_toArray, List.getElem_cons_succ, List.getElem_cons_zero, Act.put, List.setIfInBounds_toArray, List.set_cons_zero, List.set_cons_succ]
                      refine Hd.take (i := 5) (v := ?tv137) hok rfl (by kernel_rfl) (fun _ _ _ h => h) (Or.inl ⟨by rfl, ?ty137⟩) (by assumption) ?tr137
                      case ty137 => (intro w hSw; (try dsimp only at hSw); go_simp; (try with_reducible rfl))
                      try simp only [List.getElem_toArray, List.getElem_cons_succ, List.getElem_cons_zero, Act.put, List.setIfInBounds_toArray, List.set_cons_zero, List.set_cons_succ]
                      refine Hd.take (i := 6) (v := ?tv138) hok rfl (by kernel_rfl) (fun _ _ _ h => h) (Or.inl ⟨by rfl, ?ty138⟩) (by assumption) ?tr138
                      case ty138 => (intro w hSw; (try dsimp only at hSw); go_simp; (try with_reducible rfl))
                      try simp only [List.getElem_toArray, List.getElem_cons_succ, List.getElem_cons_zero, Act.put, List.setIfInBounds_toArray, List.set_cons_zero, List.set_cons_succ]
                      refine Hd.take (i := 7) (v := ?tv139) hok rfl (by kernel_rfl) (fun _ _ _ h => h) (Or.inl ⟨by rfl, ?ty139⟩) (by assumption) ?tr139
                      case ty139 => (intro w hSw; (try dsimp only at hSw); go_simp; (try with_reducible rfl))
                      try simp only [List.getElem_toArray, List.getElem_cons_succ, List.getElem_cons_zero, Act.put, List.setIfInBounds_toArray, List.set_cons_zero, List.set_cons_succ]
                      refine Hd.one (i := 8) rfl (by kernel_rfl) (fun K hK => ?_)
                      go_simp
                      have hzA := hzd.alloc (.cells (u64T.enc z'.x.uid).toArray 23)
                      refine hK _ _ ⟨cell_old _ s26, cell_old _ sL⟩ ?_
                      clear hK K
                      try simp only [List.getElem_toArray, List.getElem_cons_succ, List.getElem_cons_zero, Act.put, List.setIfInBounds_toArray, List.set_cons_zero, List.set_cons_succ]
                      refine Hd.one (i := 9) rfl (by kernel_rfl) (fun K hK => ?_)
                      have hown1 := RT.Own.one u64T Wd z'.x.uid Wd.heap.size rfl
                      obtain ⟨F, ⟨ho1, hF⟩, -, hact⟩ := hzA.act 3 (u64T.row (.slice kB.aU us.length kB.cU) us) rfl
                      refine u64T.step_append rfl (.tmp 140) (.tmp 143) rfl _ _ us [z'.x.uid] rfl rfl ho1 hown1.rd (by rw [List.length_singleton]; exact hul1.out) ?_
                      intro v8 w8 ho8 hg8 hat8
                      have hz8 := hact (u64T.row v8 (us ++ [z'.x.uid])) (fun k => v8.ownBlock = some k) w8 ⟨ho8, fun _ => Iff.rfl⟩ (grows_row hF hg8 hat8)
                      obtain ⟨a9, c9, hv8⟩ := ho8.len
                      subst hv8
                      have t26 : w8.cell? ⟨wb, 26, none⟩ = some (.slice kB.aU us.length kB.cU) := box_cell (hz8.box 2 rfl).1 26
                      have tL : w8.cell? ⟨Lb, 0, none⟩ = some (.int .u64 z'.x.uid) := box_cell (hz8.box 0 rfl).1 0
                      have f26 := box_free (hz8.box 2 rfl).1 26
                      refine hK _ _ ⟨t26, tL⟩ ?_
                      clear hK K
                      try simp only [List.getElem_toArray, List.getElem_cons_succ, List.getElem_cons_zero, Act.put, List.setIfInBounds_toArray, List.set_cons_zero, List.set_cons_succ]
                      refine Hd.done (by kernel_rfl) ?_
                      simp only [List.drop_succ_cons, List.drop_zero]
                      have hzC := hz8.setBox 2 rfl 26 (.slice a9 (us ++ [z'.x.uid]).length c9)
                      replace hzC : Zoo W0 (w8.setCell ⟨wb, 26, none⟩ (.slice a9 (us ++ [z'.x.uid]).length c9)) (ltT.row (.slice (some ⟨gl, 0, none⟩) out.length cc) out :: workL wb { kB with aU := a9, cU := c9 } mB q y { o with validity := d.validity, uids := us ++ [z'.x.uid] }) := hzC.tail
                      generalize (us ++ [z'.x.uid]).length = n9 at *
                      rw [show z'.x.uid = x2.next by rw [hxx.out], hur.out] at hzC
                      replace hzC := Lib.hid hzC
                      clear hz8 hact ho8 hg8 hat8 ho1 hF hown1 hzA hzd s26 sL hok hS0 hzB
                      generalize hwC : w8.setCell ⟨wb, 26, none⟩ (.slice a9 n9 c9) = wC at hzC
                      have hbx9 := bxS (k := { kB with aU := a9, cU := c9 }) hzC.out.tail rfl hgB.out hlB x3 hxB'.out
                      have c2 := hbx9.1.c2
                      have f2 := hbx9.2 (t * 5 + 2)
                      have hn3 : x3.next + 1 < 18446744073709551616 := by rw [← hx3e.out]; exact hxn1.out
                      have hzF := work_storeL' (k := { kB with aU := a9, cU := c9 }) (E := [ltT.row (.slice (some ⟨gl, 0, none⟩) out.length cc) out]) hlB { x3 with next := x3.next + 1 } hzC.out (by rw [show ({ kB with aU := a9, cU := c9 } : WkV).bs[t] = x3 from hxB'.out]) (by rw [show ({ kB with aU := a9, cU := c9 } : WkV).bs[t] = x3 from hxB'.out]; rfl) hgB.out 2 (by decide) (.int .u64 ((x3.next : Int) + 1)) (by rw [show ({ kB with aU := a9, cU := c9 } : WkV).bs[t] = x3 from hxB'.out]; rfl)
                      have hokF := WkOk.set (k := { kB with aU := a9, cU := c9 }) (i := t) (m := mB) ⟨hokB.out.1, hokB.out.2⟩ { x3 with next := x3.next + 1 } (hokB.out.2 x3 (by rw [← hxB'.out]; exact List.getElem_mem hlB))
                      have hmF : setM mB t ({ x3 with next := x3.next + 1 } : BxV).b = setM m t (copied d.b ((out.take (j + 1)).map LtV.x)) := by
                        rw [← hmB.out, setM_set, hmj.out, ← hx4.out, ← hx3e.out]
                        unfold BxV.b
                        dsimp only
                        rw [List.map_append, List.map_append, show [z'].map LtV.x = [z'.x] from rfl, hxx.out]
                        rfl
                      rw [hmF] at hzF hokF
                      have hcpF : Hid (CpSt k m t d.b out (setB { kB with aU := a9, cU := c9 } t { x3 with next := x3.next + 1 }) (j + 1)) := Lib.hid ⟨hokF, hgB.out.trans hg.out.symm, hSB.out, hlt⟩
                      replace hzF : Hid (Zoo W0 (wC.setCell ⟨g, t * 5 + 2, none⟩ (.int .u64 ((x3.next : Int) + 1))) (ltT.row (.slice (some ⟨gl, 0, none⟩) out.length cc) out :: workL wb (setB { kB with aU := a9, cU := c9 } t { x3 with next := x3.next + 1 }) (setM m t (copied d.b ((out.take (j + 1)).map LtV.x))) q y { o with validity := d.validity, uids := o.uids ++ List.range' d.next (j + 1) })) := Lib.hid hzF
                      clear hokF hmF hzC hbx9 hokB hmB hSB hx3e hx4 hmj hxx hur hul1 hxl1 hxn1 hxB' hx2b hSA hokA hxA hgA hpA habA
                      go_wp2_with fail
                      go_roundw
                      case rel => exact ⟨j + 1, _, by go_num, by omega, hcpF, hzF⟩
                      case measure => simp [intOf] <;> omega
                    · obtain rfl : j = out.length := by omega
                      rw [List.take_length] at hz
                      have hcpo := hcp.out.ok
                      rw [List.take_length] at hcpo
                      have hl1 : (out.length : Int) ≤ (out.length : Int) := by omega
                      replace hz := Lib.hid hz.out.tail
                      replace hcpo := Lib.hid hcpo
                      clear hcp
                      go_wp2_with fail
                      go_ret
                      exact WkRet.of hr.out ⟨_, rfl, hcpo, hz⟩
end Go.Proofs.YtcnebfmlelcliaaGreat
