/- append: walked. expunge: its closure: walked. -/
import Derived.Test.YtcnebfmlelcliaaGreatB08
import Derived.Deep.DeepCutAuto
import Derived.Test.YtcnebfmlelcliaaGreatB09
namespace Go.Proofs.YtcnebfmlelcliaaGreat
set_option linter.unusedSimpArgs false
open Go.RowKit
attribute [local go_sem ↓] Go.wp_at_zero Go.wp_at_succ

/-- the request's own copy in a method -/
def rqBox (rb : Nat) (q : Rq) (y : RqV) : Th := boxT rb (rqCells q y).toArray 68
theorem work_rq {W : World} {wb : Nat} {k : WkV} {m : Ml} {q : Rq} {y : RqV} {o : Oc} {t : TypeId} (h : W.heap[wb]? = some (.cells (workCells k m q y o).toArray t (0, 0))) (j : Nat) (v : Value) (hj : (rqCells q y)[j]? = some v) : W.cell? ⟨wb, 6 + j, none⟩ = some v := by
  rw [box_cell h (6 + j)]
  have hl := (List.getElem?_eq_some_iff.1 hj).1
  have e : workCells k m q y o = (workCells k m q y o).take 6 ++ (rqCells q y ++ (workCells k m q y o).drop 23) := rfl
  have h6 : ((workCells k m q y o).take 6).length = 6 := rfl
  rw [List.getElem?_toArray, e, List.getElem?_append_right (by rw [h6]; omega), h6, Nat.add_sub_cancel_left, List.getElem?_append_left hl]
  exact hj
theorem rq_one (q : Rq) (y : RqV) : ∀ v ∈ rqCells q y, v.oneCell' = true := fun v hv => by
  simp only [rqCells, List.mem_cons, List.not_mem_nil, or_false] at hv
  rcases hv with rfl | rfl | rfl | rfl | rfl | rfl | rfl | rfl | rfl | rfl | rfl | rfl | rfl | rfl | rfl | rfl | rfl <;> rfl
def rqZ : List Value := [.int .i64 0, .int .u64 0, .int .u64 0, .int .i64 0, .int .u64 0, .int .u64 0, .string ⟨#[]⟩, .string ⟨#[]⟩, .int .u64 0, .slice none 0 0, .slice none 0 0, .int .i64 0, .bool false, .int .u64 0, .string ⟨#[]⟩, .int .u64 0, .int .u64 0]
theorem work_last {wb : Nat} {k : WkV} {m : Ml} {q : Rq} {y : RqV} {o : Oc} (t : Th) : (workL wb k m q y o ++ [t])[k.bs.length + 7]? = some t := by
  unfold workL stateL letsL
  rw [List.getElem?_append_right (by simp)]
  simp
/-- what a request may have -/
structure RqSz (q : Rq) : Prop where
  fl : q.flags.length ≤ 100000
  sz : Sized q.flags
  ul : q.uids.length ≤ 100000
def newLt (b : Bx) (q : Rq) : Lt := ⟨b.next, q.flags, b.high + 1, q.hash, q.size⟩
def appended (b : Bx) (q : Rq) : Bx := { b with next := b.next + 1, high := b.high + 1, letters := b.letters ++ [newLt b q] }
def appendM (m : Ml) (q : Rq) (o : Oc) : Int × Ml × Oc :=
  match m.boxes.findIdx? (fun x => x.name.toList == q.box.toList) with
  | none => (6, m, o)
  | some i => match m.boxes[i]? with
    | none => (6, m, o)
    | some b =>
      if rightB q.flags = false ∨ q.hash.size ≠ 32 ∨ 4096 < q.size then (1, m, o)
      else if q.sweeps ≠ m.sweeps then (15, m, o)
      else if 32 ≤ b.letters.length then (7, m, o)
      else if 4294967295 < b.next ∨ 9223372036854775807 ≤ b.high then (13, m, o)
      else (0, setM m i (appended b q), { o with validity := b.validity, uids := [b.next] })
theorem bx_len (x : BxV) : x.b.letters.length = x.rows.length := List.length_map ..
theorem work_last_set {wb : Nat} {k : WkV} {m : Ml} {q : Rq} {y : RqV} {o : Oc} {i : Nat} (hi : i < k.bs.length) (t u : Th) : ((workL wb k m q y o ++ [t]).set (i + 7) u)[k.bs.length + 7]? = some t := by
  rw [List.getElem?_set_ne (by omega), work_last]
/-- a mailbox of a work is put, under new names -/
theorem WkOk.bump {k : WkV} {m : Ml} {i : Nat} (h : WkOk k m) (hi : i < k.bs.length) (x1 : BxV) (hx : HasL k.S x1.rows) : ∃ k1 m1, setB k i x1 = k1 ∧ setM m i x1.b = m1 ∧ WkOk k1 m1 ∧ k1.ab = k.ab ∧ i < k1.bs.length ∧ ∀ h : i < k1.bs.length, k1.bs[i] = x1 :=
  ⟨_, _, rfl, rfl, h.set x1 hx, rfl, by show i < (k.bs.set i x1).length; rw [List.length_set]; exact hi, fun h => List.getElem_set_self ..⟩
/-- the cells that an append reads -/
def ApS (g i rb : Nat) (x : BxV) (q : Rq) (y : RqV) (w' : World) : Prop := w'.cell? ⟨g, i * 5 + 2, none⟩ = some (.int .u64 x.next) ∧ w'.cell? ⟨g, i * 5 + 3, none⟩ = some (.int .u64 x.high) ∧ w'.cell? ⟨g, i * 5 + 4, none⟩ = some (.slice x.a x.rows.length x.c) ∧ w'.cell? ⟨rb, 10, none⟩ = some (.slice y.af q.flags.length y.cf) ∧ w'.cell? ⟨rb, 14, none⟩ = some (.string q.hash) ∧ w'.cell? ⟨rb, 15, none⟩ = some (.int .u64 q.size)
theorem apS {W0 W : World} {L : List Th} {k : WkV} {q : Rq} {y : RqV} {g i rb : Nat} (hz : Zoo W0 W L) (h3 : L[3]? = some (bxT.row (.slice k.ab k.bs.length k.cb) k.bs)) (hg : k.ab = some ⟨g, 0, none⟩) (hi : i < k.bs.length) (x : BxV) (hx : k.bs[i] = x) (j : Nat) (hr : L[j]? = some (rqBox rb q y)) : ApS g i rb x q y W := by
  obtain ⟨g', hg', -, hb, -⟩ := work_box hz h3 hi
  rw [hg] at hg'
  injection hg' with hg'
  injection hg' with hg'
  subst hg' hx
  obtain ⟨h, -⟩ := hz.box (B := rb) (C := (rqCells q y).toArray) (t := 68) j hr
  exact ⟨hb.c2, hb.c3, hb.c4, box_cell h 10, box_cell h 14, box_cell h 15⟩
theorem bxS {W0 W : World} {L : List Th} {k : WkV} {g i : Nat} (hz : Zoo W0 W L) (h3 : L[3]? = some (bxT.row (.slice k.ab k.bs.length k.cb) k.bs)) (hg : k.ab = some ⟨g, 0, none⟩) (hi : i < k.bs.length) (x : BxV) (hx : k.bs[i] = x) : BoxAt W g i x ∧ ∀ j, W.frozen? ⟨g, j, none⟩ = false := by
  obtain ⟨g', hg', -, hb, hf⟩ := work_box hz h3 hi
  rw [hg] at hg'
  injection hg' with hg'
  injection hg' with hg'
  subst hg' hx
  exact ⟨hb, hf⟩
def newLtV (x : BxV) (q : Rq) (a : Option Addr) (c : Nat) : LtV := ⟨⟨x.next, q.flags, x.high, q.hash, q.size⟩, a, c⟩
set_option maxRecDepth 100000 in
set_option maxHeartbeats 8000000 in
theorem append_any {W0 W : World} {wb : Nat} {k : WkV} {m : Ml} {q : Rq} {y : RqV} {o : Oc} (hz : Zoo W0 W (workL wb k m q y o)) (hk : WkOk k m) (hl : m.boxes.length ≤ 1000) (hin : RqIn W0 q y) (hq : RqSz q) :
    Calls Tryz.prog 40 #[.pointer (some ⟨wb, 0, none⟩)] W (WkRet W0 wb q y (appendM m q o)) := by
  have hat := Lib.hid (fun (W' : World) (h : Zoo W0 W' (workL wb k m q y o)) => workAt h hk hl q.box)
  obtain ⟨hbx, -⟩ := hz.drew.box 0 rfl
  replace hbx := Lib.hid hbx
  replace hk := Lib.hid hk
  replace hz := Lib.hid hz.drew
  go_enter Tryz.func40, Tryz.ntmps40
  go_wp2_with fail
  go_cut [3, 4] (fun v3 v4 wx => ∃ rb, v3 = .int .i64 (atM q.box m) ∧ v4 = .pointer (some ⟨rb, 0, none⟩) ∧ Hid (Zoo W0 wx (workL wb k m q y o ++ [rqBox rb q y])))
  case first =>
    refine wp_region_hd (fun w' => Hid (w'.heap[wb]? = some (.cells (workCells k m q y o).toArray 97 (0, 0)))) 16 1 (by kernel_rfl) rfl ⟨by kernel_rfl, by kernel_rfl, by kernel_rfl, by decide⟩ hbx (fun hok hS0 => ?_)
    clear hbx
    refine Hd.take (i := 0) (v := ?tv53) hok rfl (by kernel_rfl) (fun _ _ _ h => h) (Or.inl ⟨by rfl, ?ty53⟩) (by assumption) ?tr53
    case ty53 => (intro w hSw; (try dsimp only at hSw); go_simp; (try with_reducible rfl))
    try simp only [List.getElem_toArray, List.getElem_cons_succ, List.getElem_cons_zero, Act.put, List.setIfInBounds_toArray, List.set_cons_zero, List.set_cons_succ]
    refine Hd.take (i := 1) (v := ?tv54) hok rfl (by kernel_rfl) (fun _ _ _ h => h) (Or.inl ⟨by rfl, ?ty54⟩) (by assumption) ?tr54
    case ty54 => (intro w hSw; (try dsimp only at hSw); go_simp; (try with_reducible rfl))
    try simp only [List.getElem_toArray, List.getElem_cons_succ, List.getElem_cons_zero, Act.put, List.setIfInBounds_toArray, List.set_cons_zero, List.set_cons_succ]
    refine Hd.take (i := 2) (v := ?tv55) hok rfl (by kernel_rfl) (fun _ _ _ h => h) (Or.inl ⟨by rfl, ?ty55⟩) (by assumption) ?tr55
    case ty55 => (intro w hSw; (try dsimp only at hSw); go_simp; (try with_reducible rfl))
    try simp only [List.getElem_toArray, List.getElem_cons_succ, List.getElem_cons_zero, Act.put, List.setIfInBounds_toArray, List.set_cons_zero, List.set_cons_succ]
    refine Hd.take (i := 3) (v := ?tv51) hok rfl (by kernel_rfl) (fun _ _ _ h => h) (Or.inl ⟨by rfl, ?ty51⟩) (by assumption) ?tr51
    case ty51 =>
      intro w hSw
      have k0 : w.cell? ⟨wb, 0, none⟩ = some (.slice k.ab k.bs.length k.cb) := box_cell hSw.out 0
      have k1 : w.cell? ⟨wb, 1, none⟩ = some (.int .u64 m.nv) := box_cell hSw.out 1
      have k2 : w.cell? ⟨wb, 2, none⟩ = some (.slice k.ah m.homes.length k.ch) := box_cell hSw.out 2
      have k3 : w.cell? ⟨wb, 3, none⟩ = some (.slice k.as_ m.seats.length k.cs) := box_cell hSw.out 3
      have k4 : w.cell? ⟨wb, 4, none⟩ = some (.int .u64 m.ns) := box_cell hSw.out 4
      have k5 : w.cell? ⟨wb, 5, none⟩ = some (.int .u64 m.sweeps) := box_cell hSw.out 5
      clear hSw
      go_simp
      (try with_reducible rfl)
    try simp only [List.getElem_toArray, List.getElem_cons_succ, List.getElem_cons_zero, Act.put, List.setIfInBounds_toArray, List.set_cons_zero, List.set_cons_succ]
    refine Hd.take (i := 4) (v := ?tv56) hok rfl (by kernel_rfl) (fun _ _ _ h => h) (Or.inl ⟨by rfl, ?ty56⟩) (by assumption) ?tr56
    case ty56 => (intro w hSw; (try dsimp only at hSw); go_simp; (try with_reducible rfl))
    try simp only [List.getElem_toArray, List.getElem_cons_succ, List.getElem_cons_zero, Act.put, List.setIfInBounds_toArray, List.set_cons_zero, List.set_cons_succ]
    refine Hd.take (i := 5) (v := ?tv57) hok rfl (by kernel_rfl) (fun _ _ _ h => h) (Or.inl ⟨by rfl, ?ty57⟩) (by assumption) ?tr57
    case ty57 => (intro w hSw; (try dsimp only at hSw); go_simp; (try with_reducible rfl))
    try simp only [List.getElem_toArray, List.getElem_cons_succ, List.getElem_cons_zero, Act.put, List.setIfInBounds_toArray, List.set_cons_zero, List.set_cons_succ]
    refine Hd.take (i := 6) (v := ?tv58) hok rfl (by kernel_rfl) (fun _ _ _ h => h) (Or.inl ⟨by rfl, ?ty58⟩) (by assumption) ?tr58
    case ty58 => (intro w hSw; (try dsimp only at hSw); go_simp; (try with_reducible rfl))
    try simp only [List.getElem_toArray, List.getElem_cons_succ, List.getElem_cons_zero, Act.put, List.setIfInBounds_toArray, List.set_cons_zero, List.set_cons_succ]
    refine Hd.take (i := 7) (v := ?tv59) hok rfl (by kernel_rfl) (fun _ _ _ h => h) (Or.inl ⟨by rfl, ?ty59⟩) (by assumption) ?tr59
    case ty59 => (intro w hSw; (try dsimp only at hSw); go_simp; (try with_reducible rfl))
    try simp only [List.getElem_toArray, List.getElem_cons_succ, List.getElem_cons_zero, Act.put, List.setIfInBounds_toArray, List.set_cons_zero, List.set_cons_succ]
    refine Hd.take (i := 8) (v := ?tv52) hok rfl (by kernel_rfl) (fun _ _ _ h => h) (Or.inl ⟨by rfl, ?ty52⟩) (by assumption) ?tr52
    case ty52 =>
      intro w hSw
      have k12 : w.cell? ⟨wb, 12, none⟩ = some (.string q.box) := box_cell hSw.out 12
      clear hSw
      go_simp
      (try with_reducible rfl)
    try simp only [List.getElem_toArray, List.getElem_cons_succ, List.getElem_cons_zero, Act.put, List.setIfInBounds_toArray, List.set_cons_zero, List.set_cons_succ]
    refine Hd.take (i := 10) (v := ?tv60) hok rfl (by kernel_rfl) (fun _ _ _ h => h) (Or.inl ⟨by rfl, ?ty60⟩) (by assumption) ?tr60
    case ty60 => (intro w hSw; (try dsimp only at hSw); go_simp; (try with_reducible rfl))
    try simp only [List.getElem_toArray, List.getElem_cons_succ, List.getElem_cons_zero, Act.put, List.setIfInBounds_toArray, List.set_cons_zero, List.set_cons_succ]
    refine Hd.take (i := 11) (v := ?tv61) hok rfl (by kernel_rfl) (fun _ _ _ h => h) (Or.inl ⟨by rfl, ?ty61⟩) (by assumption) ?tr61
    case ty61 => (intro w hSw; (try dsimp only at hSw); go_simp; (try with_reducible rfl))
    try simp only [List.getElem_toArray, List.getElem_cons_succ, List.getElem_cons_zero, Act.put, List.setIfInBounds_toArray, List.set_cons_zero, List.set_cons_succ]
    refine Hd.take (i := 12) (v := ?tv62) hok rfl (by kernel_rfl) (fun _ _ _ h => h) (Or.inl ⟨by rfl, ?ty62⟩) (by assumption) ?tr62
    case ty62 => (intro w hSw; (try dsimp only at hSw); go_simp; (try with_reducible rfl))
    try simp only [List.getElem_toArray, List.getElem_cons_succ, List.getElem_cons_zero, Act.put, List.setIfInBounds_toArray, List.set_cons_zero, List.set_cons_succ]
    refine Hd.take (i := 13) (v := .agg (rqCells q y).toArray) hok rfl (by kernel_rfl) (fun _ _ _ h => h) (yields_load_cells 68 (.tmp 18) rfl wb 6 (rqCells q y) (by rfl) Tryz.isAgg68 Tryz.sizeOf68 rfl (fun W hS => work_rq hS.out)) (by assumption) ?_
    try simp only [List.getElem_toArray, List.getElem_cons_succ, List.getElem_cons_zero, Act.put, List.setIfInBounds_toArray, List.set_cons_zero, List.set_cons_succ]
    refine Hd.two (i := 9) (k := 14) rfl rfl (by kernel_rfl) (fun K hK => ?_) (fun K hK => ?_)
    · go_simp
      refine (hat.out _ hz.out).mono ?_
      rintro e w3 ⟨rfl, hb3⟩
      dsimp only
      have hz3 := hz.out.below hb3.out
      obtain ⟨hbx, -⟩ := hz3.box 0 rfl
      refine hK _ _ (Lib.hid hbx) ?_
      replace hbx := Lib.hid hbx
      clear hK K
      try simp only [List.getElem_toArray, List.getElem_cons_succ, List.getElem_cons_zero, Act.put, List.setIfInBounds_toArray, List.set_cons_zero, List.set_cons_succ]
      refine Hd.one (i := 14) rfl (by kernel_rfl) (fun K hK => ?_)
      go_simp
      have hz4 := hz3.newBox (rqZ.toArray) 68
      unfold rqZ at hz4
      have hS4 := Lib.hid (hz4.box 1 rfl).1
      refine hK _ _ hS4 ?_
      clear hK K
      try simp only [List.getElem_toArray, List.getElem_cons_succ, List.getElem_cons_zero, Act.put, List.setIfInBounds_toArray, List.set_cons_zero, List.set_cons_succ]
      refine Hd.take (i := 15) (v := ?tv63) hok rfl (by kernel_rfl) (fun _ _ _ h => h) (Or.inl ⟨by rfl, ?ty63⟩) (by assumption) ?tr63
      case ty63 => (intro w hSw; (try dsimp only at hSw); go_simp; (try with_reducible rfl))
      try simp only [List.getElem_toArray, List.getElem_cons_succ, List.getElem_cons_zero, Act.put, List.setIfInBounds_toArray, List.set_cons_zero, List.set_cons_succ]
      refine Hd.done (by kernel_rfl) ?_
      simp only [List.drop_succ_cons, List.drop_zero]
      clear hat hz hok hS0 hb3 hbx hz3 hS4
      have hs4 := hz4.boxSome (C := rqZ) 0 rfl
      refine wpList_store_cells rfl 68 (.tmp 4) (.tmp 19) rfl w3.heap.size 0 (rqCells q y) rfl rfl Tryz.sizeOf68 (rq_one q y) hs4.1 hs4.2 ?_
      have hz5 := Lib.hid (work_extra (hz4.fillBox (C := rqZ) 0 rfl (rqCells q y) rfl))
      clear hs4 hz4
      go_wp2_with fail
      go_meet
      case rel => exact ⟨_, rfl, rfl, hz5⟩
    · go_simp
      have hz4 := hz.out.newBox (rqZ.toArray) 68
      unfold rqZ at hz4
      have hS4 := Lib.hid (hz4.box 1 rfl).1
      refine hK _ _ hS4 ?_
      clear hK K
      try simp only [List.getElem_toArray, List.getElem_cons_succ, List.getElem_cons_zero, Act.put, List.setIfInBounds_toArray, List.set_cons_zero, List.set_cons_succ]
      refine Hd.one (i := 9) rfl (by kernel_rfl) (fun K hK => ?_)
      go_simp
      refine (hat.out _ hz4.tail).mono ?_
      rintro e w3 ⟨rfl, hb3⟩
      dsimp only
      have hz5 := hz4.below hb3.out
      have hS5 := Lib.hid (hz5.box 1 rfl).1
      refine hK _ _ hS5 ?_
      clear hK K
      try simp only [List.getElem_toArray, List.getElem_cons_succ, List.getElem_cons_zero, Act.put, List.setIfInBounds_toArray, List.set_cons_zero, List.set_cons_succ]
      refine Hd.take (i := 15) (v := ?tv64) hok rfl (by kernel_rfl) (fun _ _ _ h => h) (Or.inl ⟨by rfl, ?ty64⟩) (by assumption) ?tr64
      case ty64 => (intro w hSw; (try dsimp only at hSw); go_simp; (try with_reducible rfl))
      try simp only [List.getElem_toArray, List.getElem_cons_succ, List.getElem_cons_zero, Act.put, List.setIfInBounds_toArray, List.set_cons_zero, List.set_cons_succ]
      refine Hd.done (by kernel_rfl) ?_
      simp only [List.drop_succ_cons, List.drop_zero]
      have hs4 := hz5.boxSome (C := rqZ) 0 rfl
      refine wpList_store_cells rfl 68 (.tmp 4) (.tmp 19) rfl W.drew.heap.size 0 (rqCells q y) rfl rfl Tryz.sizeOf68 (rq_one q y) hs4.1 hs4.2 ?_
      have hz6 := Lib.hid (work_extra (hz5.fillBox (C := rqZ) 0 rfl (rqCells q y) rfl))
      clear hat hz hok hS0 hb3 hz4 hS4 hS5 hs4 hz5
      go_wp2_with fail
      go_meet
      case rel => exact ⟨_, rfl, rfl, hz6⟩
  case rest =>
    clear hat hz hbx
    obtain ⟨rb, rfl, rfl, hz⟩ := hcut
    unfold atM
    rcases findIdx_cases (fun x : Bx => x.name.toList == q.box.toList) m.boxes with ⟨e1, e2⟩ | ⟨i, hi, e1, e2⟩
    · rw [e2]
      have hr : Hid (appendM m q o = (6, m, o)) := Lib.hid (by unfold appendM; rw [e1])
      replace hz := Lib.hid (work_done hz.out)
      clear e2 e1
      go_wp2_with fail
      go_ret
      exact WkRet.of hr.out ⟨k, rfl, hk, hz⟩
    · rw [e2]
      have he := Lib.hid e1
      have hil : i < k.bs.length := by rw [hk.out.len]; exact hi
      have hgm := Lib.hid (hk.out.get hil)
      have hi0 : (0 : Int) ≤ (i : Int) := by omega
      have hil2 : (i : Int) < (k.bs.length : Int) := by omega
      obtain ⟨hbx, -⟩ := hz.out.box 0 rfl
      have k0 : wc.cell? ⟨wb, 0, none⟩ = some (.slice k.ab k.bs.length k.cb) := box_cell hbx 0
      have k5 : wc.cell? ⟨wb, 5, none⟩ = some (.int .u64 m.sweeps) := box_cell hbx 5
      obtain ⟨g, hg, hglt, hbox, hfr⟩ := work_box hz.out rfl hil
      rw [hg] at k0
      obtain ⟨hrbx, -⟩ := hz.out.box (B := rb) (C := (rqCells q y).toArray) (t := 68) _ (work_last _)
      have r10 : wc.cell? ⟨rb, 10, none⟩ = some (.slice y.af q.flags.length y.cf) := box_cell hrbx 10
      have hright := Lib.hid (right_any _ q.flags wc (Rd.below hin.2 hz.out.bel) (by have := hq.fl; omega) hq.sz)
      clear e1 e2
      replace hg := Lib.hid hg
      clear hbx hrbx hbox hfr
      go_wp2_with fail
      refine hright.out.mono ?_
      rintro e w4 ⟨rfl, hb4⟩
      have hz4 := hz.out.below hb4.out
      clear k0 k5 r10
      obtain ⟨hbx, -⟩ := hz4.box 0 rfl
      have k0 : w4.cell? ⟨wb, 0, none⟩ = some (.slice k.ab k.bs.length k.cb) := box_cell hbx 0
      have k5 : w4.cell? ⟨wb, 5, none⟩ = some (.int .u64 m.sweeps) := box_cell hbx 5
      obtain ⟨g', hg', hglt, hbox, hfr⟩ := work_box hz4 rfl hil
      rw [hg.out] at hg' k0
      injection hg' with hg'
      injection hg' with hg'
      subst hg'
      obtain ⟨hrbx, -⟩ := hz4.box (B := rb) (C := (rqCells q y).toArray) (t := 68) _ (work_last _)
      have r10 : w4.cell? ⟨rb, 10, none⟩ = some (.slice y.af q.flags.length y.cf) := box_cell hrbx 10
      have r14 : w4.cell? ⟨rb, 14, none⟩ = some (.string q.hash) := box_cell hrbx 14
      have r15 : w4.cell? ⟨rb, 15, none⟩ = some (.int .u64 q.size) := box_cell hrbx 15
      have r16 : w4.cell? ⟨rb, 16, none⟩ = some (.int .u64 q.sweeps) := box_cell hrbx 16
      obtain ⟨b0, b1, b2, b3, b4⟩ := hbox
      clear hright hz hb4
      cases hrb : rightB q.flags with
      | false =>
        have hr : Hid (appendM m q o = (1, m, o)) := Lib.hid (by unfold appendM; rw [he.out]; dsimp only; rw [hgm.out]; dsimp only; rw [if_pos (.inl hrb)])
        replace hz4 := Lib.hid (work_done hz4)
        clear hbx hrbx hg he
        go_wp2_with fail
        go_ret
        exact WkRet.of hr.out ⟨k, rfl, hk, hz4⟩
      | true =>
        cases h32 : ((q.hash.size : Int) != 32) with
        | true =>
          have hr : Hid (appendM m q o = (1, m, o)) := Lib.hid (by unfold appendM; rw [he.out]; dsimp only; rw [hgm.out]; dsimp only; rw [if_pos (.inr (.inl (fun h => by rw [h] at h32; simp at h32)))])
          replace hz4 := Lib.hid (work_done hz4)
          clear hbx hrbx hg he
          go_wp2_with fail
          go_ret
          exact WkRet.of hr.out ⟨k, rfl, hk, hz4⟩
        | false =>
          have h32' : q.hash.size = 32 := by simp at h32; omega
          by_cases hsz : 4096 < q.size
          · have hsz2 : (4096 : Int) < (q.size : Int) := by omega
            have hr : Hid (appendM m q o = (1, m, o)) := Lib.hid (by unfold appendM; rw [he.out]; dsimp only; rw [hgm.out]; dsimp only; rw [if_pos (.inr (.inr hsz))])
            replace hz4 := Lib.hid (work_done hz4)
            clear hbx hrbx hg he
            go_wp2_with fail
            go_ret
            exact WkRet.of hr.out ⟨k, rfl, hk, hz4⟩
          · have hsz2 : ¬ (4096 : Int) < (q.size : Int) := by omega
            have hgood : ¬ (rightB q.flags = false ∨ q.hash.size ≠ 32 ∨ 4096 < q.size) := by rw [hrb, h32']; simp; omega
            replace hgood := Lib.hid hgood
            replace h32' := Lib.hid h32'
            cases hsw : ((q.sweeps : Int) != (m.sweeps : Int)) with
            | true =>
              have hsw2 : q.sweeps ≠ m.sweeps := fun h => by rw [h] at hsw; simp at hsw
              have hr : Hid (appendM m q o = (15, m, o)) := Lib.hid (by unfold appendM; rw [he.out]; dsimp only; rw [hgm.out]; dsimp only; rw [if_neg hgood.out, if_pos hsw2])
              replace hz4 := Lib.hid (work_done hz4)
              clear hbx hrbx hg he hsw2
              go_wp2_with fail
              go_quiet (fail)
              go_wp2_with fail
              go_ret
              exact WkRet.of hr.out ⟨k, rfl, hk, Lib.hid (hz4.out.below (below_drewN (Below.refl _ _) nq))⟩
            | false =>
              have hsw2 : q.sweeps = m.sweeps := by simp at hsw; omega
              replace hsw2 := Lib.hid hsw2
              obtain ⟨x, hx⟩ : ∃ x, k.bs[i] = x := ⟨_, rfl⟩
              rw [hx] at b0 b1 b2 b3 b4 hgm
              replace hx := Lib.hid hx
              by_cases hln : 32 ≤ x.rows.length
              · have hln2 : (32 : Int) ≤ (x.rows.length : Int) := by omega
                have hr : Hid (appendM m q o = (7, m, o)) := Lib.hid (by unfold appendM; rw [he.out]; dsimp only; rw [hgm.out]; dsimp only; rw [if_neg hgood.out, if_neg (fun h => h hsw2.out)]; rw [if_pos (by rw [bx_len]; exact hln)])
                replace hz4 := Lib.hid (work_done hz4)
                clear hbx hrbx hg he
                go_wp2_with fail
                go_quiet (fail)
                go_wp2_with fail
                go_ret
                exact WkRet.of hr.out ⟨k, rfl, hk, Lib.hid (hz4.out.below (below_drewN (Below.refl _ _) nq))⟩
              · have hln2 : ¬ (32 : Int) ≤ (x.rows.length : Int) := by omega
                by_cases hnx : 4294967295 < x.next
                · have hnx2 : (4294967295 : Int) < (x.next : Int) := by omega
                  have hr : Hid (appendM m q o = (13, m, o)) := Lib.hid (by unfold appendM; rw [he.out]; dsimp only; rw [hgm.out]; dsimp only; rw [if_neg hgood.out, if_neg (fun h => h hsw2.out)]; rw [if_neg (by rw [bx_len]; exact hln), if_pos (.inl hnx)])
                  replace hz4 := Lib.hid (work_done hz4)
                  clear hbx hrbx hg he
                  go_wp2_with fail
                  go_quiet (fail)
                  go_wp2_with fail
                  go_ret
                  exact WkRet.of hr.out ⟨k, rfl, hk, Lib.hid (hz4.out.below (below_drewN (Below.refl _ _) nq))⟩
                · have hnx2 : ¬ (4294967295 : Int) < (x.next : Int) := by omega
                  by_cases hhi : 9223372036854775807 ≤ x.high
                  · have hhi2 : (9223372036854775807 : Int) ≤ (x.high : Int) := by omega
                    have hr : Hid (appendM m q o = (13, m, o)) := Lib.hid (by unfold appendM; rw [he.out]; dsimp only; rw [hgm.out]; dsimp only; rw [if_neg hgood.out, if_neg (fun h => h hsw2.out)]; rw [if_neg (by rw [bx_len]; exact hln), if_pos (.inr hhi)])
                    replace hz4 := Lib.hid (work_done hz4)
                    clear hbx hrbx hg he
                    go_wp2_with fail
                    go_quiet (fail)
                    go_wp2_with fail
                    go_ret
                    exact WkRet.of hr.out ⟨k, rfl, hk, Lib.hid (hz4.out.below (below_drewN (Below.refl _ _) nq))⟩
                  · have hhi2 : decide ((9223372036854775807 : Int) ≤ (x.high : Int)) = false := decide_eq_false (by omega)
                    have hr : Hid (appendM m q o = (0, setM m i (appended x.b q), { o with validity := x.validity, uids := [x.next] })) := Lib.hid (by unfold appendM; rw [he.out]; dsimp only; rw [hgm.out]; dsimp only; rw [if_neg hgood.out, if_neg (fun h => h hsw2.out), if_neg (by rw [bx_len]; exact hln), if_neg (fun h => h.elim hnx hhi)]; rfl)
                    have hb1 : x.high + 1 < 18446744073709551616 := by omega
                    have hnxH := Lib.hid (Nat.le_of_not_lt hnx)
                    have hf3 := hfr (i * 5 + 3)
                    have hzs := fun nq => work_store' hil { x with high := x.high + 1 } (hz4.below (below_drewN (Below.refl _ _) nq)) (by rw [hx.out]) (by rw [hx.out]; rfl) hg.out 3 (by decide) (.int .u64 ((x.high : Int) + 1)) (by rw [hx.out]; rfl)
                    replace hzs := Lib.hid hzs
                    replace hfr := Lib.hid hfr
                    replace hz4 := Lib.hid hz4
                    clear hbx hrbx he hnx hhi hln
                    go_wp2_with fail
                    go_quiet (fail)
                    go_wp2_with fail
                    have hz5 := Lib.hid (hzs.out nq)
                    clear hzs b0 b1 b2 b3 b4 r10 r14 r15 r16 k0 k5 hf3 hfr hz4
                    generalize ((w4.drewN nq).setCell ⟨g, i * 5 + 3, none⟩ (.int .u64 ((x.high : Int) + 1))) = W5 at hz5 ⊢
                    have hxm : x ∈ k.bs := by rw [← hx.out]; exact List.getElem_mem hil
                    have hxl : x.rows.length < 32 := by omega
                    obtain ⟨x1, hx1e⟩ : ∃ x1 : BxV, { x with high := x.high + 1 } = x1 := ⟨_, rfl⟩
                    obtain ⟨k1, m1, hk1, hm1, hok1, hg1, hil1, hx1⟩ := hk.out.bump hil x1 (by rw [← hx1e]; exact hk.out.2 x hxm)
                    rw [hx1e, hk1, hm1] at hz5
                    rw [hg.out] at hg1
                    replace hx1 := hx1 hil1
                    replace hok1 := Lib.hid hok1
                    replace hg1 := Lib.hid hg1
                    replace hx1 := Lib.hid hx1
                    replace hk1 := Lib.hid hk1
                    replace hm1 := Lib.hid hm1
                    have hxl1 : x1.rows.length < 32 := by rw [← hx1e]; exact hxl
                    replace hx1e := Lib.hid hx1e
                    have hz5d := Lib.hid hz5.out.drew
                    have hS5 := apS hz5d.out rfl hg1.out hil1 x1 hx1.out _ (work_last _)
                    obtain ⟨s2, s3, s4, s10, s14, s15⟩ := hS5
                    have hcl := Lib.hid (cloneFl_any (FlIn.rd (Rd.below hin.2 hz5d.out.bel)) hq.fl)
                    clear hz5 hxm hln2 hnx2 hhi2 hb1
                    refine wp_region_hd (fun w' => w'.cell? ⟨g, i * 5 + 2, none⟩ = some (.int .u64 x1.next) ∧ w'.cell? ⟨g, i * 5 + 3, none⟩ = some (.int .u64 x1.high) ∧ w'.cell? ⟨g, i * 5 + 4, none⟩ = some (.slice x1.a x1.rows.length x1.c) ∧ w'.cell? ⟨rb, 10, none⟩ = some (.slice y.af q.flags.length y.cf) ∧ w'.cell? ⟨rb, 14, none⟩ = some (.string q.hash) ∧ w'.cell? ⟨rb, 15, none⟩ = some (.int .u64 q.size)) 23 3 (by kernel_rfl) rfl ⟨by kernel_rfl, by kernel_rfl, by kernel_rfl, by decide⟩ ⟨s2, s3, s4, s10, s14, s15⟩ (fun hok hS0 => ?_)
                    clear s2 s3 s4 s10 s14 s15
                    refine Hd.take (i := 0) (v := ?tv65) hok rfl (by kernel_rfl) (fun _ _ _ h => h) (Or.inl ⟨by rfl, ?ty65⟩) (by assumption) ?tr65
                    case ty65 => (intro w hSw; (try dsimp only at hSw); go_simp; (try with_reducible rfl))
                    try simp only [List.getElem_toArray, List.getElem_cons_succ, List.getElem_cons_zero, Act.put, List.setIfInBounds_toArray, List.set_cons_zero, List.set_cons_succ]
                    refine Hd.take (i := 1) (v := ?tv66) hok rfl (by kernel_rfl) (fun _ _ _ h => h) (Or.inl ⟨by rfl, ?ty66⟩) (by assumption) ?tr66
                    case ty66 => (intro w hSw; (try dsimp only at hSw); go_simp; (try with_reducible rfl))
                    try simp only [List.getElem_toArray, List.getElem_cons_succ, List.getElem_cons_zero, Act.put, List.setIfInBounds_toArray, List.set_cons_zero, List.set_cons_succ]
                    refine Hd.take (i := 2) (v := ?tv67) hok rfl (by kernel_rfl) (fun _ _ _ h => h) (Or.inl ⟨by rfl, ?ty67⟩) (by assumption) ?tr67
                    case ty67 => (intro w hSw; (try dsimp only at hSw); go_simp; (try with_reducible rfl))
                    try simp only [List.getElem_toArray, List.getElem_cons_succ, List.getElem_cons_zero, Act.put, List.setIfInBounds_toArray, List.set_cons_zero, List.set_cons_succ]
                    refine Hd.take (i := 3) (v := ?tv68) hok rfl (by kernel_rfl) (fun _ _ _ h => h) (Or.inl ⟨by rfl, ?ty68⟩) (by assumption) ?tr68
                    case ty68 => (intro w hSw; (try dsimp only at hSw); go_simp; (try with_reducible rfl))
                    try simp only [List.getElem_toArray, List.getElem_cons_succ, List.getElem_cons_zero, Act.put, List.setIfInBounds_toArray, List.set_cons_zero, List.set_cons_succ]
                    refine Hd.take (i := 4) (v := ?tv69) hok rfl (by kernel_rfl) (fun _ _ _ h => h) (Or.inl ⟨by rfl, ?ty69⟩) (by assumption) ?tr69
                    case ty69 => (intro w hSw; (try dsimp only at hSw); go_simp; (try with_reducible rfl))
                    try simp only [List.getElem_toArray, List.getElem_cons_succ, List.getElem_cons_zero, Act.put, List.setIfInBounds_toArray, List.set_cons_zero, List.set_cons_succ]
                    refine Hd.take (i := 5) (v := ?tv70) hok rfl (by kernel_rfl) (fun _ _ _ h => h) (Or.inl ⟨by rfl, ?ty70⟩) (by assumption) ?tr70
                    case ty70 => (intro w hSw; (try dsimp only at hSw); go_simp; (try with_reducible rfl))
                    try simp only [List.getElem_toArray, List.getElem_cons_succ, List.getElem_cons_zero, Act.put, List.setIfInBounds_toArray, List.set_cons_zero, List.set_cons_succ]
                    refine Hd.take (i := 6) (v := ?tv71) hok rfl (by kernel_rfl) (fun _ _ _ h => h) (Or.inl ⟨by rfl, ?ty71⟩) (by assumption) ?tr71
                    case ty71 => (intro w hSw; (try dsimp only at hSw); go_simp; (try with_reducible rfl))
                    try simp only [List.getElem_toArray, List.getElem_cons_succ, List.getElem_cons_zero, Act.put, List.setIfInBounds_toArray, List.set_cons_zero, List.set_cons_succ]
                    refine Hd.take (i := 7) (v := ?tv72) hok rfl (by kernel_rfl) (fun _ _ _ h => h) (Or.inl ⟨by rfl, ?ty72⟩) (by assumption) ?tr72
                    case ty72 => (intro w hSw; (try dsimp only at hSw); go_simp; (try with_reducible rfl))
                    try simp only [List.getElem_toArray, List.getElem_cons_succ, List.getElem_cons_zero, Act.put, List.setIfInBounds_toArray, List.set_cons_zero, List.set_cons_succ]
                    refine Hd.take (i := 8) (v := ?tv73) hok rfl (by kernel_rfl) (fun _ _ _ h => h) (Or.inl ⟨by rfl, ?ty73⟩) (by assumption) ?tr73
                    case ty73 => (intro w hSw; (try dsimp only at hSw); go_simp; (try with_reducible rfl))
                    try simp only [List.getElem_toArray, List.getElem_cons_succ, List.getElem_cons_zero, Act.put, List.setIfInBounds_toArray, List.set_cons_zero, List.set_cons_succ]
                    refine Hd.take (i := 9) (v := ?tv74) hok rfl (by kernel_rfl) (fun _ _ _ h => h) (Or.inl ⟨by rfl, ?ty74⟩) (by assumption) ?tr74
                    case ty74 => (intro w hSw; (try dsimp only at hSw); go_simp; (try with_reducible rfl))
                    try simp only [List.getElem_toArray, List.getElem_cons_succ, List.getElem_cons_zero, Act.put, List.setIfInBounds_toArray, List.set_cons_zero, List.set_cons_succ]
                    refine Hd.take (i := 10) (v := ?tv75) hok rfl (by kernel_rfl) (fun _ _ _ h => h) (Or.inl ⟨by rfl, ?ty75⟩) (by assumption) ?tr75
                    case ty75 => (intro w hSw; (try dsimp only at hSw); go_simp; (try with_reducible rfl))
                    try simp only [List.getElem_toArray, List.getElem_cons_succ, List.getElem_cons_zero, Act.put, List.setIfInBounds_toArray, List.set_cons_zero, List.set_cons_succ]
                    refine Hd.take (i := 12) (v := ?tv76) hok rfl (by kernel_rfl) (fun _ _ _ h => h) (Or.inl ⟨by rfl, ?ty76⟩) (by assumption) ?tr76
                    case ty76 => (intro w hSw; (try dsimp only at hSw); go_simp; (try with_reducible rfl))
                    try simp only [List.getElem_toArray, List.getElem_cons_succ, List.getElem_cons_zero, Act.put, List.setIfInBounds_toArray, List.set_cons_zero, List.set_cons_succ]
                    refine Hd.take (i := 13) (v := ?tv77) hok rfl (by kernel_rfl) (fun _ _ _ h => h) (Or.inl ⟨by rfl, ?ty77⟩) (by assumption) ?tr77
                    case ty77 => (intro w hSw; (try dsimp only at hSw); go_simp; (try with_reducible rfl))
                    try simp only [List.getElem_toArray, List.getElem_cons_succ, List.getElem_cons_zero, Act.put, List.setIfInBounds_toArray, List.set_cons_zero, List.set_cons_succ]
                    refine Hd.take (i := 14) (v := ?tv78) hok rfl (by kernel_rfl) (fun _ _ _ h => h) (Or.inl ⟨by rfl, ?ty78⟩) (by assumption) ?tr78
                    case ty78 => (intro w hSw; (try dsimp only at hSw); go_simp; (try with_reducible rfl))
                    try simp only [List.getElem_toArray, List.getElem_cons_succ, List.getElem_cons_zero, Act.put, List.setIfInBounds_toArray, List.set_cons_zero, List.set_cons_succ]
                    refine Hd.take (i := 15) (v := ?tv79) hok rfl (by kernel_rfl) (fun _ _ _ h => h) (Or.inl ⟨by rfl, ?ty79⟩) (by assumption) ?tr79
                    case ty79 => (intro w hSw; (try dsimp only at hSw); go_simp; (try with_reducible rfl))
                    try simp only [List.getElem_toArray, List.getElem_cons_succ, List.getElem_cons_zero, Act.put, List.setIfInBounds_toArray, List.set_cons_zero, List.set_cons_succ]
                    refine Hd.take (i := 16) (v := ?tv80) hok rfl (by kernel_rfl) (fun _ _ _ h => h) (Or.inl ⟨by rfl, ?ty80⟩) (by assumption) ?tr80
                    case ty80 => (intro w hSw; (try dsimp only at hSw); go_simp; (try with_reducible rfl))
                    try simp only [List.getElem_toArray, List.getElem_cons_succ, List.getElem_cons_zero, Act.put, List.setIfInBounds_toArray, List.set_cons_zero, List.set_cons_succ]
                    refine Hd.take (i := 17) (v := ?tv81) hok rfl (by kernel_rfl) (fun _ _ _ h => h) (Or.inl ⟨by rfl, ?ty81⟩) (by assumption) ?tr81
                    case ty81 => (intro w hSw; (try dsimp only at hSw); go_simp; (try with_reducible rfl))
                    try simp only [List.getElem_toArray, List.getElem_cons_succ, List.getElem_cons_zero, Act.put, List.setIfInBounds_toArray, List.set_cons_zero, List.set_cons_succ]
                    refine Hd.take (i := 18) (v := ?tv82) hok rfl (by kernel_rfl) (fun _ _ _ h => h) (Or.inl ⟨by rfl, ?ty82⟩) (by assumption) ?tr82
                    case ty82 => (intro w hSw; (try dsimp only at hSw); go_simp; (try with_reducible rfl))
                    try simp only [List.getElem_toArray, List.getElem_cons_succ, List.getElem_cons_zero, Act.put, List.setIfInBounds_toArray, List.set_cons_zero, List.set_cons_succ]
                    refine Hd.take (i := 19) (v := ?tv83) hok rfl (by kernel_rfl) (fun _ _ _ h => h) (Or.inl ⟨by rfl, ?ty83⟩) (by assumption) ?tr83
                    case ty83 => (intro w hSw; (try dsimp only at hSw); go_simp; (try with_reducible rfl))
                    try simp only [List.getElem_toArray, List.getElem_cons_succ, List.getElem_cons_zero, Act.put, List.setIfInBounds_toArray, List.set_cons_zero, List.set_cons_succ]
                    refine Hd.one (i := 11) rfl (by kernel_rfl) (fun K hK => ?_)
                    go_simp
                    refine hcl.out.mono ?_
                    rintro e w6 ⟨v6, rfl, ho6, hb6, hf6⟩
                    dsimp only
                    obtain ⟨a6, c6, hv6⟩ := ho6.out.len
                    have hz6 := work_addFl hz5d.out hb6.out (FlIn.of_own ho6.out) hf6.out
                    subst hv6
                    refine hK _ _ (apS (k := addS k1 _) hz6 rfl hg1.out hil1 x1 hx1.out _ (work_last _)) ?_
                    clear hK K
                    have hS6 := apS (k := addS k1 _) hz6 rfl hg1.out hil1 x1 hx1.out _ (work_last _)
                    replace hS6 : Hid (ApS g i rb x1 q y w6) := Lib.hid hS6
                    replace hz6 := Lib.hid hz6
                    try simp only [List.getElem_toArray, List.getElem_cons_succ, List.getElem_cons_zero, Act.put, List.setIfInBounds_toArray, List.set_cons_zero, List.set_cons_succ]
                    refine Hd.take (i := 20) (v := ?tv84) hok rfl (by kernel_rfl) (fun _ _ _ h => h) (Or.inl ⟨by rfl, ?ty84⟩) (by assumption) ?tr84
                    case ty84 => (intro w hSw; (try dsimp only at hSw); go_simp; (try with_reducible rfl))
                    try simp only [List.getElem_toArray, List.getElem_cons_succ, List.getElem_cons_zero, Act.put, List.setIfInBounds_toArray, List.set_cons_zero, List.set_cons_succ]
                    refine Hd.one (i := 21) rfl (by kernel_rfl) (fun K hK => ?_)
                    go_simp
                    have hz7 := hz6.out.alloc (.cells (ltT.enc (newLtV x1 q a6 c6)).toArray 66)
                    have hS7 := apS (k := addS k1 _) hz7 rfl hg1.out hil1 x1 hx1.out _ (work_last _)
                    refine hK _ _ hS7 ?_
                    clear hK K
                    replace hS7 : Hid (ApS g i rb x1 q y (w6.alloc (.cells (ltT.enc (newLtV x1 q a6 c6)).toArray 66))) := Lib.hid hS7
                    try simp only [List.getElem_toArray, List.getElem_cons_succ, List.getElem_cons_zero, Act.put, List.setIfInBounds_toArray, List.set_cons_zero, List.set_cons_succ]
                    refine Hd.one (i := 22) rfl (by kernel_rfl) (fun K hK => ?_)
                    have hown1 := RT.Own.one ltT w6 (newLtV x1 q a6 c6) w6.heap.size rfl
                    obtain ⟨F, ⟨ho, hF⟩, -, hact⟩ := hz7.act (i + 7) (ltT.row x1.v x1.rows) (by rw [← hx1.out]; exact work_let (k := addS k1 _) i hil1)
                    refine ltT.step_append rfl (.tmp 85) (.tmp 102) rfl _ _ x1.rows [newLtV x1 q a6 c6] rfl rfl ho hown1.rd (by rw [List.length_singleton]; omega) ?_
                    intro v8 w8 ho8 hg8 hat8
                    have hz8 := hact (ltT.row v8 (x1.rows ++ [newLtV x1 q a6 c6])) (fun k => v8.ownBlock = some k) w8 ⟨ho8, fun _ => Iff.rfl⟩ (grows_row hF hg8 hat8)
                    obtain ⟨a8, c8, hv8⟩ := ho8.len
                    subst hv8
                    have hS8 := apS (k := addS k1 _) hz8 rfl hg1.out hil1 x1 hx1.out _ (work_last_set (k := addS k1 _) hil1 _ _)
                    refine hK _ _ hS8 ?_
                    clear hK K
                    try simp only [List.getElem_toArray, List.getElem_cons_succ, List.getElem_cons_zero, Act.put, List.setIfInBounds_toArray, List.set_cons_zero, List.set_cons_succ]
                    refine Hd.done (by kernel_rfl) ?_
                    simp only [List.drop_succ_cons, List.drop_zero]
                    obtain ⟨-, -, s4, -⟩ := hS8
                    obtain ⟨g', hg', -, -, hfr8⟩ := work_box (k := addS k1 (.slice a6 q.flags.length c6, q.flags)) hz8 rfl hil1
                    obtain rfl : g = g' := by have h := hg1.out.symm.trans hg'; injection h with h; injection h
                    have f4 := hfr8 (i * 5 + 4)
                    obtain ⟨x2, hx2e⟩ : ∃ x2 : BxV, { x1 with rows := x1.rows ++ [newLtV x1 q a6 c6], a := a8, c := c8 } = x2 := ⟨_, rfl⟩
                    have hz9 := work_store (k := addS k1 (.slice a6 q.flags.length c6, q.flags)) hil1 x2 (by rw [← hx2e]; exact hz8) hg1.out 4 (by decide) (.slice a8 (x1.rows ++ [newLtV x1 q a6 c6]).length c8) (by
                      rw [← hx2e]
                      show _ = (bxT.enc (k1.bs[i]'hil1)).set 4 _
                      rw [hx1.out]
                      rfl)
                    have hx1m : x1 ∈ k1.bs := by rw [← hx1.out]; exact List.getElem_mem hil1
                    obtain ⟨k2, m2, hk2, hm2, hok2, hg2, hil2', hx2⟩ := (WkOk.add (p := (.slice a6 q.flags.length c6, q.flags)) hok1.out).bump (show i < (addS k1 (.slice a6 q.flags.length c6, q.flags)).bs.length from hil1) x2 (by
                      rw [← hx2e]
                      intro z hz
                      rcases List.mem_append.1 hz with h | h
                      · exact List.mem_cons_of_mem _ (hok1.out.2 x1 hx1m z h)
                      · simp only [List.mem_singleton] at h
                        subst h
                        exact List.mem_cons_self ..)
                    rw [hk2, hm2] at hz9
                    generalize (x1.rows ++ [newLtV x1 q a6 c6]).length = n8 at *
                    replace hz9 := Lib.hid hz9
                    replace hg2 := Lib.hid (hg2.trans hg1.out)
                    replace hx2 := Lib.hid (hx2 hil2')
                    replace hk2 := Lib.hid hk2
                    replace hm2 := Lib.hid hm2
                    replace hok2 := Lib.hid hok2
                    replace hx2e := Lib.hid hx2e
                    clear hz8 hfr8 hg' hact ho8 hg8 hat8 ho hF hown1 hz7 hS7 hz6 hS6 hcl hz5d hok hS0 hx1m ho6 hb6 hf6
                    go_wp2_with fail
                    generalize w8.setCell ⟨g, i * 5 + 4, none⟩ (.slice a8 n8 c8) = W9 at hz9 ⊢
                    go_cut [] (fun wx => ∃ a c, Hid (Zoo W0 wx (workL wb { k2 with aU := a, cU := c } m2 q y { o with validity := x2.validity, uids := [x2.next] } ++ [rqBox rb q y])))
                    case first =>
                      have hz9d := Lib.hid hz9.out.drew
                      obtain ⟨g', hg', -, hb9, -⟩ := work_box hz9d.out rfl hil2'
                      obtain rfl : g = g' := by have h := hg2.out.symm.trans hg'; injection h with h; injection h
                      rw [hx2.out] at hb9
                      have c1 := hb9.c1
                      have c2 := hb9.c2
                      clear hb9 hg' f4 s4
                      refine wp_region_hd (fun w' => w'.cell? ⟨g, i * 5 + 1, none⟩ = some (.int .u64 x2.validity) ∧ w'.cell? ⟨g, i * 5 + 2, none⟩ = some (.int .u64 x2.next)) 15 4 (by kernel_rfl) rfl ⟨by kernel_rfl, by kernel_rfl, by kernel_rfl, by decide⟩ ⟨c1, c2⟩ (fun hok hS0 => ?_)
                      generalize W9.drew = Wd at *
                      refine Hd.take (i := 0) (v := ?tv85) hok rfl (by kernel_rfl) (fun _ _ _ h => h) (Or.inl ⟨by rfl, ?ty85⟩) (by assumption) ?tr85
                      case ty85 => (intro w hSw; (try dsimp only at hSw); go_simp; (try with_reducible rfl))
                      try simp only [List.getElem_toArray, List.getElem_cons_succ, List.getElem_cons_zero, Act.put, List.setIfInBounds_toArray, List.set_cons_zero, List.set_cons_succ]
                      refine Hd.take (i := 1) (v := ?tv86) hok rfl (by kernel_rfl) (fun _ _ _ h => h) (Or.inl ⟨by rfl, ?ty86⟩) (by assumption) ?tr86
                      case ty86 => (intro w hSw; (try dsimp only at hSw); go_simp; (try with_reducible rfl))
                      try simp only [List.getElem_toArray, List.getElem_cons_succ, List.getElem_cons_zero, Act.put, List.setIfInBounds_toArray, List.set_cons_zero, List.set_cons_succ]
                      refine Hd.take (i := 2) (v := ?tv87) hok rfl (by kernel_rfl) (fun _ _ _ h => h) (Or.inl ⟨by rfl, ?ty87⟩) (by assumption) ?tr87
                      case ty87 => (intro w hSw; (try dsimp only at hSw); go_simp; (try with_reducible rfl))
                      try simp only [List.getElem_toArray, List.getElem_cons_succ, List.getElem_cons_zero, Act.put, List.setIfInBounds_toArray, List.set_cons_zero, List.set_cons_succ]
                      refine Hd.take (i := 3) (v := ?tv88) hok rfl (by kernel_rfl) (fun _ _ _ h => h) (Or.inl ⟨by rfl, ?ty88⟩) (by assumption) ?tr88
                      case ty88 => (intro w hSw; (try dsimp only at hSw); go_simp; (try with_reducible rfl))
                      try simp only [List.getElem_toArray, List.getElem_cons_succ, List.getElem_cons_zero, Act.put, List.setIfInBounds_toArray, List.set_cons_zero, List.set_cons_succ]
                      refine Hd.take (i := 4) (v := ?tv89) hok rfl (by kernel_rfl) (fun _ _ _ h => h) (Or.inl ⟨by rfl, ?ty89⟩) (by assumption) ?tr89
                      case ty89 => (intro w hSw; (try dsimp only at hSw); go_simp; (try with_reducible rfl))
                      try simp only [List.getElem_toArray, List.getElem_cons_succ, List.getElem_cons_zero, Act.put, List.setIfInBounds_toArray, List.set_cons_zero, List.set_cons_succ]
                      refine Hd.take (i := 5) (v := ?tv90) hok rfl (by kernel_rfl) (fun _ _ _ h => h) (Or.inl ⟨by rfl, ?ty90⟩) (by assumption) ?tr90
                      case ty90 => (intro w hSw; (try dsimp only at hSw); go_simp; (try with_reducible rfl))
                      try simp only [List.getElem_toArray, List.getElem_cons_succ, List.getElem_cons_zero, Act.put, List.setIfInBounds_toArray, List.set_cons_zero, List.set_cons_succ]
                      refine Hd.take (i := 6) (v := ?tv91) hok rfl (by kernel_rfl) (fun _ _ _ h => h) (Or.inl ⟨by rfl, ?ty91⟩) (by assumption) ?tr91
                      case ty91 => (intro w hSw; (try dsimp only at hSw); go_simp; (try with_reducible rfl))
                      try simp only [List.getElem_toArray, List.getElem_cons_succ, List.getElem_cons_zero, Act.put, List.setIfInBounds_toArray, List.set_cons_zero, List.set_cons_succ]
                      refine Hd.take (i := 7) (v := ?tv92) hok rfl (by kernel_rfl) (fun _ _ _ h => h) (Or.inl ⟨by rfl, ?ty92⟩) (by assumption) ?tr92
                      case ty92 => (intro w hSw; (try dsimp only at hSw); go_simp; (try with_reducible rfl))
                      try simp only [List.getElem_toArray, List.getElem_cons_succ, List.getElem_cons_zero, Act.put, List.setIfInBounds_toArray, List.set_cons_zero, List.set_cons_succ]
                      refine Hd.take (i := 8) (v := ?tv93) hok rfl (by kernel_rfl) (fun _ _ _ h => h) (Or.inl ⟨by rfl, ?ty93⟩) (by assumption) ?tr93
                      case ty93 => (intro w hSw; (try dsimp only at hSw); go_simp; (try with_reducible rfl))
                      try simp only [List.getElem_toArray, List.getElem_cons_succ, List.getElem_cons_zero, Act.put, List.setIfInBounds_toArray, List.set_cons_zero, List.set_cons_succ]
                      refine Hd.take (i := 9) (v := ?tv94) hok rfl (by kernel_rfl) (fun _ _ _ h => h) (Or.inl ⟨by rfl, ?ty94⟩) (by assumption) ?tr94
                      case ty94 => (intro w hSw; (try dsimp only at hSw); go_simp; (try with_reducible rfl))
                      try simp only [List.getElem_toArray, List.getElem_cons_succ, List.getElem_cons_zero, Act.put, List.setIfInBounds_toArray, List.set_cons_zero, List.set_cons_succ]
                      refine Hd.take (i := 11) (v := ?tv95) hok rfl (by kernel_rfl) (fun _ _ _ h => h) (Or.inl ⟨by rfl, ?ty95⟩) (by assumption) ?tr95
                      case ty95 => (intro w hSw; (try dsimp only at hSw); go_simp; (try with_reducible rfl))
                      try simp only [List.getElem_toArray, List.getElem_cons_succ, List.getElem_cons_zero, Act.put, List.setIfInBounds_toArray, List.set_cons_zero, List.set_cons_succ]
                      refine Hd.take (i := 12) (v := ?tv96) hok rfl (by kernel_rfl) (fun _ _ _ h => h) (Or.inl ⟨by rfl, ?ty96⟩) (by assumption) ?tr96
                      case ty96 => (intro w hSw; (try dsimp only at hSw); go_simp; (try with_reducible rfl))
                      try simp only [List.getElem_toArray, List.getElem_cons_succ, List.getElem_cons_zero, Act.put, List.setIfInBounds_toArray, List.set_cons_zero, List.set_cons_succ]
                      refine Hd.take (i := 13) (v := ?tv97) hok rfl (by kernel_rfl) (fun _ _ _ h => h) (Or.inl ⟨by rfl, ?ty97⟩) (by assumption) ?tr97
                      case ty97 => (intro w hSw; (try dsimp only at hSw); go_simp; (try with_reducible rfl))
                      try simp only [List.getElem_toArray, List.getElem_cons_succ, List.getElem_cons_zero, Act.put, List.setIfInBounds_toArray, List.set_cons_zero, List.set_cons_succ]
                      refine Hd.two (i := 10) (k := 14) rfl rfl (by kernel_rfl) (fun K hK => ?_) (fun K hK => ?_)
                      · go_simp
                        have hzA : Zoo W0 (Wd.alloc (.cells #[.int .u64 x2.next] 23)) (u64T.row (.slice (some ⟨Wd.heap.size, 0, none⟩) [x2.next].length 1) [x2.next] :: (workL wb k2 m2 q y o ++ [rqBox rb q y])) := hz9d.out.newRow (R := u64T) ((Below.refl _ _).alloc (Nat.le_refl _) (.cells (u64T.enc x2.next).toArray 23)) (RT.Own.one u64T Wd x2.next _ rfl) (fun g hg => Nat.le_of_eq (Option.some.inj (show some Wd.heap.size = some g from hg)))
                        refine hK _ _ ⟨cell_old _ c1, cell_old _ c2⟩ ?_
                        clear hK K
                        try simp only [List.getElem_toArray, List.getElem_cons_succ, List.getElem_cons_zero, Act.put, List.setIfInBounds_toArray, List.set_cons_zero, List.set_cons_succ]
                        obtain ⟨hbA, -⟩ := hzA.box 1 rfl
                        have w25 : (Wd.alloc (.cells #[.int .u64 x2.next] 23)).cell? ⟨wb, 25, none⟩ = some (.int .u64 o.validity) := box_cell hbA 25
                        have f25 := box_free hbA 25
                        have hzB : Zoo W0 _ (u64T.row (.slice (some ⟨Wd.heap.size, 0, none⟩) [x2.next].length 1) [x2.next] :: (workL wb k2 m2 q y { o with validity := x2.validity } ++ [rqBox rb q y])) := hzA.setBox 1 rfl 25 (.int .u64 x2.validity)
                        generalize hWA : (Wd.alloc (.cells #[.int .u64 x2.next] 23)) = WA at *
                        replace hWA := Lib.hid hWA
                        refine Hd.one (i := 14) rfl (by kernel_rfl) (fun K hK => ?_)
                        go_simp
                        have hbB := (bxS hzB.tail rfl hg2.out hil2' x2 hx2.out).1
                        refine hK _ _ ⟨hbB.c1, hbB.c2⟩ ?_
                        clear hK K
                        try simp only [List.getElem_toArray, List.getElem_cons_succ, List.getElem_cons_zero, Act.put, List.setIfInBounds_toArray, List.set_cons_zero, List.set_cons_succ]
                        refine Hd.done (by kernel_rfl) ?_
                        simp only [List.drop_succ_cons, List.drop_zero]
                        obtain ⟨hbC, -⟩ := hzB.box 1 rfl
                        have w26 : (WA.setCell ⟨wb, 25, none⟩ (.int .u64 x2.validity)).cell? ⟨wb, 26, none⟩ = some (.slice k2.aU o.uids.length k2.cU) := box_cell hbC 26
                        have f26 := box_free hbC 26
                        have hzC := work_newU hzB
                        generalize hWB : WA.setCell ⟨wb, 25, none⟩ (.int .u64 x2.validity) = WB at *
                        replace hWB := Lib.hid hWB
                        replace hzC := Lib.hid hzC
                        clear hzA hzB hbA hbB hbC c1 c2 w25 f25 hz9d hz9 hok hS0
                        go_wp2_with fail
                        go_meet
                        case rel => exact ⟨_, _, hzC⟩
                      · go_simp
                        obtain ⟨hbA, -⟩ := hz9d.out.box 0 rfl
                        have w25 : Wd.cell? ⟨wb, 25, none⟩ = some (.int .u64 o.validity) := box_cell hbA 25
                        have f25 := box_free hbA 25
                        go_simp
                        have hzA : Zoo W0 (Wd.setCell ⟨wb, 25, none⟩ (.int .u64 x2.validity)) (workL wb k2 m2 q y { o with validity := x2.validity } ++ [rqBox rb q y]) := hz9d.out.setBox 0 rfl 25 (.int .u64 x2.validity)
                        have hbB := (bxS hzA rfl hg2.out hil2' x2 hx2.out).1
                        refine hK _ _ ⟨hbB.c1, hbB.c2⟩ ?_
                        clear hK K
                        try simp only [List.getElem_toArray, List.getElem_cons_succ, List.getElem_cons_zero, Act.put, List.setIfInBounds_toArray, List.set_cons_zero, List.set_cons_succ]
                        generalize hWA : Wd.setCell ⟨wb, 25, none⟩ (.int .u64 x2.validity) = WA at *
                        replace hWA := Lib.hid hWA
                        refine Hd.one (i := 10) rfl (by kernel_rfl) (fun K hK => ?_)
                        go_simp
                        have hzB : Zoo W0 (WA.alloc (.cells #[.int .u64 x2.next] 23)) (u64T.row (.slice (some ⟨WA.heap.size, 0, none⟩) [x2.next].length 1) [x2.next] :: (workL wb k2 m2 q y { o with validity := x2.validity } ++ [rqBox rb q y])) := hzA.newRow (R := u64T) ((Below.refl _ _).alloc (Nat.le_refl _) (.cells (u64T.enc x2.next).toArray 23)) (RT.Own.one u64T WA x2.next _ rfl) (fun g hg => Nat.le_of_eq (Option.some.inj (show some WA.heap.size = some g from hg)))
                        refine hK _ _ ⟨cell_old _ hbB.c1, cell_old _ hbB.c2⟩ ?_
                        clear hK K
                        try simp only [List.getElem_toArray, List.getElem_cons_succ, List.getElem_cons_zero, Act.put, List.setIfInBounds_toArray, List.set_cons_zero, List.set_cons_succ]
                        refine Hd.done (by kernel_rfl) ?_
                        simp only [List.drop_succ_cons, List.drop_zero]
                        obtain ⟨hbC, -⟩ := hzB.box 1 rfl
                        have hzC := work_newU hzB
                        generalize hWB : WA.alloc (.cells #[.int .u64 x2.next] 23) = WB at *
                        have w26 : WB.cell? ⟨wb, 26, none⟩ = some (.slice k2.aU o.uids.length k2.cU) := box_cell hbC 26
                        have f26 := box_free hbC 26
                        replace hWB := Lib.hid hWB
                        replace hzC := Lib.hid hzC
                        clear hzA hzB hbA hbB hbC c1 c2 w25 f25 hz9d hz9 hok hS0
                        go_wp2_with fail
                        go_meet
                        case rel => exact ⟨_, _, hzC⟩
                    case rest =>
                      clear hz9 f4 s4
                      obtain ⟨aU, cU, hz10⟩ := hcut
                      have hb10 := (bxS (k := { k2 with aU := aU, cU := cU }) hz10.out rfl hg2.out hil2' x2 hx2.out)
                      have c2 := hb10.1.c2
                      have f2 := hb10.2 (i * 5 + 2)
                      have hxm2 : x2 ∈ k2.bs := by rw [← hx2.out]; exact List.getElem_mem hil2'
                      have hz11 := work_store' (k := { k2 with aU := aU, cU := cU }) hil2' { x2 with next := x2.next + 1 } hz10.out (by show x2.rows = (k2.bs[i]'hil2').rows; rw [hx2.out]) (by show x2.v = (k2.bs[i]'hil2').v; rw [hx2.out]) hg2.out 2 (by decide) (.int .u64 ((x2.next : Int) + 1)) (by
                        show _ = (bxT.enc (k2.bs[i]'hil2')).set 2 _
                        rw [hx2.out]
                        rfl)
                      have hok3 := WkOk.set (k := { k2 with aU := aU, cU := cU }) (i := i) (m := m2) ⟨hok2.out.1, hok2.out.2⟩ { x2 with next := x2.next + 1 } (hok2.out.2 x2 hxm2)
                      have hm3 : setM m2 i ({ x2 with next := x2.next + 1 } : BxV).b = setM m i (appended x.b q) ∧ ({ o with validity := x2.validity, uids := [x2.next] } : Oc) = { o with validity := x.validity, uids := [x.next] } := by
                        have e1 := hx1e.out
                        have e2 := hx2e.out
                        subst e1 e2
                        refine ⟨?_, rfl⟩
                        rw [← hm2.out, ← hm1.out]
                        unfold setM
                        dsimp only
                        rw [List.set_set, List.set_set]
                        unfold BxV.b appended newLtV newLt
                        dsimp only
                        rw [List.map_append]
                        rfl
                      rw [hm3.1] at hz11 hok3
                      rw [hm3.2] at hz11
                      have hb2 : x2.next + 1 < 18446744073709551616 := by
                        have e1 := hx1e.out
                        have e2 := hx2e.out
                        subst e1 e2
                        have := hnxH.out
                        show x.next + 1 < _
                        omega
                      replace hz11 := Lib.hid (work_done hz11)
                      replace hok3 := Lib.hid hok3
                      clear hm3 hz10 hb10 hxm2
                      go_wp2_with fail
                      go_ret
                      exact WkRet.of hr.out ⟨_, rfl, hok3, hz11⟩
end Go.Proofs.YtcnebfmlelcliaaGreat
namespace Go.Proofs.YtcnebfmlelcliaaGreat
set_option linter.unusedSimpArgs false
open Go.RowKit
attribute [local go_sem ↓] Go.wp_at_zero Go.wp_at_succ

def delL : List UInt8 := [92, 68, 101, 108, 101, 116, 101, 100]
/-- does a letter go? -/
def goesB (l : List Lt) (q : Rq) (x : Lt) : Bool := decide (delL ∈ x.flags) && (decide (q.uids.length = 0) || meantB l q x)
set_option maxRecDepth 100000 in
set_option maxHeartbeats 8000000 in
theorem goes1_any {W : World} (x : LtV) (gb mb c d wb : Nat) (rs : List (Nat × Nat)) (au : Option Addr) (cu most : Nat) (h1 : W.cell? ⟨gb, 0, none⟩ = some (.pointer (some ⟨wb, 0, none⟩))) (h2 : W.cell? ⟨mb, 0, none⟩ = some (.func (.func 100) #[] #[.pointer (some ⟨c, 0, none⟩), .pointer (some ⟨d, 0, none⟩)])) (h3 : W.cell? ⟨wb, 15, none⟩ = some (.slice au rs.length cu)) (h4 : W.cell? ⟨c, 0, none⟩ = some (.pointer (some ⟨wb, 0, none⟩))) (h5 : W.cell? ⟨d, 0, none⟩ = some (.int .u64 most)) (hr : RangesIn W W.heap.size (.slice au rs.length cu) rs) (hl : rs.length ≤ 100000) (hf : FlIn W x.v x.x.flags) (hfl : x.x.flags.length ≤ 100000) :
    Calls Tryz.prog 75 #[.agg (ltT.enc x).toArray, .pointer (some ⟨gb, 0, none⟩), .pointer (some ⟨mb, 0, none⟩)] W fun e w' => e = .returned (.bool (decide (delL ∈ x.x.flags) && (decide (rs.length = 0) || hasL rs most x.x.uid))) ∧ Hid (Below W.heap.size W w') := by
  have hb := (Below.refl _ W).alloc (Nat.le_refl _) (.cells (ltCells x).toArray 66)
  obtain ⟨hx, -⟩ := ((Zoo.nil W).newBox (ltCells x).toArray 66).box 0 rfl
  replace h1 := cell_old (.cells (ltCells x).toArray 66) h1
  replace h2 := cell_old (.cells (ltCells x).toArray 66) h2
  replace h3 := cell_old (.cells (ltCells x).toArray 66) h3
  replace h4 := cell_old (.cells (ltCells x).toArray 66) h4
  replace h5 := cell_old (.cells (ltCells x).toArray 66) h5
  have hmeant := Lib.hid (meant1_any x c d wb rs au cu most h4 h3 h5 (hr.on hb) hl)
  have hhas := Lib.hid (has_any x.v x.x.flags ⟨#[92, 68, 101, 108, 101, 116, 101, 100]⟩ _ (Rd.below hf hb) (by omega))
  have r0 : (W.alloc (.cells (ltCells x).toArray 66)).cell? ⟨W.heap.size, 0, none⟩ = some (.int .u64 x.x.uid) := box_cell hx 0
  have r1 : (W.alloc (.cells (ltCells x).toArray 66)).cell? ⟨W.heap.size, 1, none⟩ = some (.slice x.a x.x.flags.length x.c) := box_cell hx 1
  have r2 : (W.alloc (.cells (ltCells x).toArray 66)).cell? ⟨W.heap.size, 2, none⟩ = some (.int .u64 x.x.mod) := box_cell hx 2
  have r3 : (W.alloc (.cells (ltCells x).toArray 66)).cell? ⟨W.heap.size, 3, none⟩ = some (.string x.x.hash) := box_cell hx 3
  have r4 : (W.alloc (.cells (ltCells x).toArray 66)).cell? ⟨W.heap.size, 4, none⟩ = some (.int .u64 x.x.size) := box_cell hx 4
  obtain ⟨R, hR⟩ : ∃ R, (decide (delL ∈ x.x.flags) && (decide (rs.length = 0) || hasL rs most x.x.uid)) = R := ⟨_, rfl⟩
  rw [hR]
  replace hR := Lib.hid hR
  have hhas2 : Hid (Calls Tryz.prog 76 #[.slice x.a x.x.flags.length x.c, .string ⟨#[92, 68, 101, 108, 101, 116, 101, 100]⟩] (W.alloc (.cells (ltCells x).toArray 66)) fun e w' => e = .returned (.bool (decide (delL ∈ x.x.flags))) ∧ (W.alloc (.cells (ltCells x).toArray 66)) = w') := hhas
  have hm2 : Hid (Calls Tryz.prog 100 #[.agg #[.int .u64 x.x.uid, .slice x.a x.x.flags.length x.c, .int .u64 x.x.mod, .string x.x.hash, .int .u64 x.x.size], .pointer (some ⟨c, 0, none⟩), .pointer (some ⟨d, 0, none⟩)] (W.alloc (.cells (ltCells x).toArray 66)) fun e w' => e = .returned (.bool (hasL rs most x.x.uid)) ∧ Hid (Below (W.alloc (.cells (ltCells x).toArray 66)).heap.size (W.alloc (.cells (ltCells x).toArray 66)) w')) := hmeant
  show Calls Tryz.prog 75 #[.agg #[.int .u64 x.x.uid, .slice x.a x.x.flags.length x.c, .int .u64 x.x.mod, .string x.x.hash, .int .u64 x.x.size], .pointer (some ⟨gb, 0, none⟩), .pointer (some ⟨mb, 0, none⟩)] W _
  replace hb := Lib.hid hb
  clear hx hr hf hhas hmeant h4 h5
  unfold ltCells LtV.v at *
  obtain ⟨B, hB⟩ : ∃ B, W.heap.size = B := ⟨_, rfl⟩
  rw [hB] at r0 r1 r2 r3 r4
  generalize hW1 : (W.alloc (.cells [Value.int .u64 x.x.uid, .slice x.a x.x.flags.length x.c, .int .u64 x.x.mod, .string x.x.hash, .int .u64 x.x.size].toArray 66)) = W1 at *
  generalize hdel : decide (delL ∈ x.x.flags) = D at *
  generalize hmm : hasL rs most x.x.uid = M at *
  replace hdel := Lib.hid hdel
  replace hmm := Lib.hid hmm
  go_enter Tryz.func75, Tryz.ntmps75
  go_wp2_with fail
  refine hhas2.out.mono ?_
  rintro e w3 ⟨rfl, rfl⟩
  clear hhas2
  cases D with
  | false =>
    go_wp2_with fail
    go_ret
    exact ⟨ret_bool hR.out, hb⟩
  | true =>
    by_cases h0 : rs.length = 0
    · rw [h0] at h3 hR
      clear h0
      go_wp2_with fail
      go_ret
      exact ⟨ret_bool hR.out, hb⟩
    · have h0' : ((rs.length : Int) == 0) = false := by simpa using h0
      rw [decide_eq_false h0] at hR
      clear h0
      go_wp2_with fail
      refine hm2.out.mono ?_
      rintro e w3 ⟨rfl, hb3⟩
      have hB2 := Lib.hid (hb.out.trans (hb3.out.mono (by have := hb.out.size; omega)))
      clear hm2 hb3
      go_wp2_with fail
      go_ret
      exact ⟨ret_bool hR.out, hB2⟩
end Go.Proofs.YtcnebfmlelcliaaGreat
