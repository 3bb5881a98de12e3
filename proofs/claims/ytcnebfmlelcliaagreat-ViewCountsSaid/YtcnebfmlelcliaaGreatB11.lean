/- expunge: walked. copy: what it computes; steps of its walk. flag.Change, and that what it hands back lies in new memory: walked. store: what it computes: plain. -/
import Derived.Test.YtcnebfmlelcliaaGreatB10
import Derived.Test.YtcnebfmlelcliaaGreatB09
import Derived.Laws.EntriesVeiled
namespace Go.Proofs.YtcnebfmlelcliaaGreat
set_option linter.unusedSimpArgs false
open Go.RowKit
attribute [local go_sem ↓] Go.wp_at_zero Go.wp_at_succ

/-- what the closure of meant has captured -/
def capT (c d wb most : Nat) : Th := ⟨fun F W => (W.heap[c]? = some (.cells #[.pointer (some ⟨wb, 0, none⟩)] 93 (0, 0)) ∧ W.heap[d]? = some (.cells #[.int .u64 most] 23 (0, 0))) ∧ ∀ k, F k ↔ (k = c ∨ k = d),
  fun F W h k hk => by
    rcases (h.2 k).1 hk with rfl | rfl
    · exact (Array.getElem?_eq_some_iff.1 h.1.1).1
    · exact (Array.getElem?_eq_some_iff.1 h.1.2).1,
  fun F W W' h hk => ⟨⟨(hk c ((h.2 c).2 (.inl rfl))).trans h.1.1, (hk d ((h.2 d).2 (.inr rfl))).trans h.1.2⟩, h.2⟩⟩
theorem Zoo.cap {W0 W W' : World} {L : List Th} {c d wb most : Nat} (h : Zoo W0 W L) (hc : W'.heap[c]? = some (.cells #[.pointer (some ⟨wb, 0, none⟩)] 93 (0, 0)) ∧ W'.heap[d]? = some (.cells #[.int .u64 most] 23 (0, 0)) ∧ W.heap.size ≤ c ∧ W.heap.size ≤ d ∧ c ≠ d) (hb : Below W.heap.size W W') : Zoo W0 W' (capT c d wb most :: L) :=
  h.more hb _ (fun k => k = c ∨ k = d) ⟨⟨hc.1, hc.2.1⟩, fun _ => Iff.rfl⟩ (fun k hk => by
    rcases hk with rfl | rfl
    · exact hc.2.2.1
    · exact hc.2.2.2.1)
theorem Zoo.capOf {W0 W : World} {L : List Th} {c d wb most : Nat} (h : Zoo W0 W L) (i : Nat) (hi : L[i]? = some (capT c d wb most)) : W.cell? ⟨c, 0, none⟩ = some (.pointer (some ⟨wb, 0, none⟩)) ∧ W.cell? ⟨d, 0, none⟩ = some (.int .u64 most) := by
  obtain ⟨F, ⟨⟨h1, h2⟩, -⟩, -⟩ := h.get i _ hi
  exact ⟨cell_at h1 0, cell_at h2 0⟩
def meantF (c d : Nat) : Value := .func (.func 100) #[] #[.pointer (some ⟨c, 0, none⟩), .pointer (some ⟨d, 0, none⟩)]
/-- the numbers of those that go -/
def goneL (l : List Lt) (q : Rq) : List Nat := (l.filter (goesB l q)).map Lt.uid
def expungeM (m : Ml) (q : Rq) (o : Oc) : Int × Ml × Oc := match namedI m q with
  | none => (6, m, o)
  | some i => match m.boxes[i]? with
    | none => (6, m, o)
    | some b =>
      if o.uids ++ goneL b.letters q = [] then (0, m, { o with uids := o.uids ++ goneL b.letters q })
      else if 9223372036854775807 ≤ b.high then (13, m, { o with uids := o.uids ++ goneL b.letters q })
      else (0, setM m i { b with high := b.high + 1, letters := b.letters.filter (fun x => !goesB b.letters q x) }, { o with uids := o.uids ++ goneL b.letters q })
/-- the uids of those of the first j letters that go -/
def goneAt (l : List Lt) (q : Rq) (j : Nat) : List Nat := ((l.take j).filter (goesB l q)).map Lt.uid
theorem goneAt_no {l : List Lt} {q : Rq} {j : Nat} (h : j < l.length) (hg : goesB l q l[j] = false) : goneAt l q (j + 1) = goneAt l q j := by
  unfold goneAt
  rw [List.take_succ_eq_append_getElem h, List.filter_append]
  simp [hg]
theorem goneAt_yes {l : List Lt} {q : Rq} {j : Nat} (h : j < l.length) (hg : goesB l q l[j] = true) : goneAt l q (j + 1) = goneAt l q j ++ [l[j].uid] := by
  unfold goneAt
  rw [List.take_succ_eq_append_getElem h, List.filter_append]
  simp [hg]
theorem goneAt_len (l : List Lt) (q : Rq) (j : Nat) : (goneAt l q j).length ≤ l.length := by
  unfold goneAt
  rw [List.length_map]
  exact Nat.le_trans (List.length_filter_le _ _) (by rw [List.length_take]; omega)
theorem goneAt_all (l : List Lt) (q : Rq) : goneAt l q l.length = goneL l q := by unfold goneAt goneL; rw [List.take_length]
/-- the named mailbox's pointer -/
theorem namedI_cases (m : Ml) (q : Rq) : namedI m q = none ∨ ∃ i, namedI m q = some i ∧ i < m.boxes.length := by
  unfold namedI
  cases h : m.boxes.findIdx? (fun x => x.name.toList == q.box.toList) with
  | none => exact .inl rfl
  | some i =>
    dsimp only
    split
    · exact .inr ⟨i, rfl, (List.findIdx?_eq_some_iff_getElem.1 h).1⟩
    · exact .inl rfl
section
variable {W0 W : World} {wb : Nat} {k : WkV} {m : Ml} {q : Rq} {y : RqV} {o : Oc}
/-- the outcome's uids in a row that has grown -/
theorem work_putU {l : List Nat} {a : Option Addr} {c : Nat} (hz : Zoo W0 W ((workL wb k m q y o).set 1 (u64T.row (.slice a l.length c) l))) : Zoo W0 (W.setCell ⟨wb, 26, none⟩ (.slice a l.length c)) (workL wb { k with aU := a, cU := c } m q y { o with uids := l }) := hz.setBox 0 rfl 26 (.slice a l.length c)
end
section
variable {W0 W : World} {wb : Nat} {k : WkV} {m : Ml} {q : Rq} {y : RqV} {o : Oc}
theorem work_let0 (i : Nat) (hi : i < k.bs.length) : (workL wb k m q y o)[i + 7]? = some (ltT.row k.bs[i].v k.bs[i].rows) := by
  have := work_let (wb := wb) (m := m) (q := q) (y := y) (o := o) (E := []) i hi
  rwa [List.append_nil] at this
theorem work_store0 {i : Nat} (hi : i < k.bs.length) (x : BxV) (hz : Zoo W0 W ((workL wb k m q y o).set (i + 7) (ltT.row x.v x.rows))) {g : Nat} (hg : k.ab = some ⟨g, 0, none⟩) (r : Nat) (hr : r < 5) (u : Value) (hx : bxT.enc x = (bxT.enc k.bs[i]).set r u) :
    Zoo W0 (W.setCell ⟨g, i * 5 + r, none⟩ u) (workL wb (setB k i x) (setM m i x.b) q y o) := by
  have := work_store (E := []) hi x (by rw [List.append_nil]; exact hz) hg r hr u hx
  rwa [List.append_nil] at this
theorem work_store1 {i : Nat} (hi : i < k.bs.length) (x : BxV) (hz : Zoo W0 W (workL wb k m q y o)) (hrow : x.rows = k.bs[i].rows) (hv : x.v = k.bs[i].v) {g : Nat} (hg : k.ab = some ⟨g, 0, none⟩) (r : Nat) (hr : r < 5) (u : Value) (hx : bxT.enc x = (bxT.enc k.bs[i]).set r u) :
    Zoo W0 (W.setCell ⟨g, i * 5 + r, none⟩ u) (workL wb (setB k i x) (setM m i x.b) q y o) := by
  have := work_store' (E := []) hi x (by rw [List.append_nil]; exact hz) hrow hv hg r hr u hx
  rwa [List.append_nil] at this
end
set_option maxRecDepth 100000 in
set_option maxHeartbeats 16000000 in
theorem expunge_any {W0 W : World} {wb : Nat} {k : WkV} {m : Ml} {q : Rq} {y : RqV} {o : Oc} (hz : Zoo W0 W (workL wb k m q y o)) (hk : WkOk k m) (hs : Sized1 m) (hin : RqIn W0 q y) (hq : RqSz q) (ho : o.uids.length ≤ 10000) :
    Calls Tryz.prog 42 #[.pointer (some ⟨wb, 0, none⟩)] W (WkRet W0 wb q y (expungeM m q o)) := by
  have hz1 := hz.newBox #[.pointer (some ⟨wb, 0, none⟩)] 93
  generalize hB : W.heap.size = B at hz1
  obtain ⟨hb0, -⟩ := hz1.box 0 rfl
  generalize hW1 : (W.alloc (.cells #[.pointer (some ⟨wb, 0, none⟩)] 93)) = W1 at *
  have c0 : W1.cell? ⟨B, 0, none⟩ = some (.pointer (some ⟨wb, 0, none⟩)) := box_cell hb0 0
  have hnamed := Lib.hid (named_any hz1.tail hk hs.boxes)
  replace hz1 := Lib.hid hz1
  clear hz hb0
  go_enter Tryz.func42, Tryz.ntmps42
  go_wp2_with fail
  refine hnamed.out.mono ?_
  rintro e w3 ⟨hz3, hb3, hres⟩
  have hz3' := Lib.hid (hz1.out.below hb3.out)
  clear hnamed hz1 hz3 hb3 hW1 hB c0
  rcases namedI_cases m q with hn | ⟨i, hn, hi⟩
  · rw [hn] at hres
    dsimp only at hres
    subst hres
    have hr : Hid (expungeM m q o = (6, m, o)) := Lib.hid (by unfold expungeM; rw [hn])
    have hz4 := Lib.hid hz3'.out.tail
    replace hk := Lib.hid hk
    clear hn hs hin hq ho hz3'
    go_wp2_with fail
    go_ret
    exact WkRet.of hr.out ⟨k, rfl, hk, hz4⟩
  · rw [hn] at hres
    dsimp only at hres
    obtain ⟨g, hg, rfl⟩ := hres
    have hil : i < k.bs.length := by rw [hk.len]; exact hi
    have hgm := hk.get hil
    obtain ⟨g', hg', hglt, hbox, hfr⟩ := work_box hz3'.out.tail rfl hil
    obtain rfl : g = g' := by have h := hg.symm.trans hg'; injection h with h; injection h
    have hrow := work_let0 (wb := wb) (m := m) (q := q) (y := y) (o := o) i hil
    have hrd := (hz3'.out.tail.own (i + 7) hrow).rd
    obtain ⟨x, hx⟩ : ∃ x, k.bs[i] = x := ⟨_, rfl⟩
    rw [hx] at hbox hgm hrd
    have hxm : x ∈ k.bs := by rw [← hx]; exact List.getElem_mem hil
    have hxb : x.b ∈ m.boxes := List.mem_of_getElem? hgm
    have hxl : x.rows.length ≤ 10000 := by have := hs.letters _ hxb; rwa [bx_len] at this
    have hxf : Hid (∀ z ∈ x.rows, z.x.flags.length ≤ 10000) := Lib.hid (fun z hz => hs.flags _ hxb z.x (List.mem_map_of_mem (f := LtV.x) hz))
    have hmeant := Lib.hid (meant_any (wb := wb) (g := g) (i := i) hbox.c4 hrd (by omega))
    have c0 : w3.cell? ⟨B, 0, none⟩ = some (.pointer (some ⟨wb, 0, none⟩)) := box_cell (hz3'.out.box 0 rfl).1 0
    have hr0 : Hid (expungeM m q o = (if o.uids ++ goneL (x.rows.map LtV.x) q = [] then (0, m, { o with uids := o.uids ++ goneL (x.rows.map LtV.x) q })
      else if 9223372036854775807 ≤ x.high then (13, m, { o with uids := o.uids ++ goneL (x.rows.map LtV.x) q })
      else (0, setM m i { x.b with high := x.high + 1, letters := (x.rows.map LtV.x).filter (fun z => !goesB (x.rows.map LtV.x) q z) }, { o with uids := o.uids ++ goneL (x.rows.map LtV.x) q }))) := Lib.hid (by unfold expungeM; rw [hn]; dsimp only; rw [hgm]; rfl)
    replace hk := Lib.hid hk
    replace hg := Lib.hid hg
    replace hx := Lib.hid hx
    replace hxm := Lib.hid hxm
    replace hin := Lib.hid hin
    replace hq := Lib.hid hq
    clear hn hs hg' hbox hfr hrow hrd hgm hxb hi
    go_wp2_with fail
    refine hmeant.out.mono ?_
    rintro e w4 ⟨c, d, rfl, hcd, hb4⟩
    have hz4 := hz3'.out.cap hcd.out hb4.out
    have hz5 := hz4.newBox #[meantF c d] 102
    unfold meantF at hz5
    generalize hM : w4.heap.size = M at hz5
    generalize hW5 : (w4.alloc (.cells #[.func (.func 100) #[] #[.pointer (some ⟨c, 0, none⟩), .pointer (some ⟨d, 0, none⟩)]] 102)) = W5 at *
    obtain ⟨g', hg', hglt, hbox, hfr⟩ := work_box hz5.tail.tail.tail rfl hil
    obtain rfl : g = g' := by have h := hg.out.symm.trans hg'; injection h with h; injection h
    rw [hx.out] at hbox
    have b4 := hbox.c4
    replace hz5 : Hid (Zoo W0 W5 (boxT M #[meantF c d] 102 :: capT c d wb (mostB (x.rows.map LtV.x)) :: boxT B #[.pointer (some ⟨wb, 0, none⟩)] 93 :: workL wb { k with aU := k.aU, cU := k.cU } m q y { o with uids := o.uids ++ goneAt (x.rows.map LtV.x) q 0 })) := Lib.hid (by
      have e : o.uids ++ goneAt (x.rows.map LtV.x) q 0 = o.uids := by simp [goneAt]
      rw [e]
      exact hz5)
    clear hmeant hz3' hz4 hcd hb4 hg' hbox hfr c0
    go_wp2_with fail
    go_loopw [25] (fun v25 wr => ∃ (j : Nat) (a : Option Addr) (cc : Nat), v25 = .int .i64 j ∧ j ≤ x.rows.length ∧ Hid (Zoo W0 wr (boxT M #[meantF c d] 102 :: capT c d wb (mostB (x.rows.map LtV.x)) :: boxT B #[.pointer (some ⟨wb, 0, none⟩)] 93 :: workL wb { k with aU := a, cU := cc } m q y { o with uids := o.uids ++ goneAt (x.rows.map LtV.x) q j }))) (fun v25 _ => x.rows.length - (intOf v25).toNat)
    case atStart => exact ⟨0, k.aU, k.cU, rfl, Nat.zero_le _, hz5⟩
    case round =>
      clear hz5 b4 hM hW5
      obtain ⟨j, a, cc, rfl, hj, hz⟩ := hrel
      by_cases hlt : j < x.rows.length
      · have hrow := work_let0 (wb := wb) (k := { k with aU := a, cU := cc }) (m := m) (q := q) (y := y) (o := { o with uids := o.uids ++ goneAt (x.rows.map LtV.x) q j }) i hil
        rw [show ({ k with aU := a, cU := cc } : WkV).bs[i] = x from hx.out] at hrow
        obtain ⟨gl, cap', hv, -, hgl, hcells⟩ := (hz.out.own (i + 10) hrow).cells hlt
        injection hv with hv1 hv2 hv3
        obtain ⟨z, hzx⟩ : ∃ z, x.rows[j] = z := ⟨_, rfl⟩
        rw [hzx] at hcells
        have r0 : wr.cell? ⟨gl, j * 5, none⟩ = some (.int .u64 z.x.uid) := hcells 0 (by decide)
        have r1 : wr.cell? ⟨gl, j * 5 + 1, none⟩ = some (.slice z.a z.x.flags.length z.c) := hcells 1 (by decide)
        have r2 : wr.cell? ⟨gl, j * 5 + 2, none⟩ = some (.int .u64 z.x.mod) := hcells 2 (by decide)
        have r3 : wr.cell? ⟨gl, j * 5 + 3, none⟩ = some (.string z.x.hash) := hcells 3 (by decide)
        have r4 : wr.cell? ⟨gl, j * 5 + 4, none⟩ = some (.int .u64 z.x.size) := hcells 4 (by decide)
        have hzm : z ∈ x.rows := by rw [← hzx]; exact List.getElem_mem hlt
        have hzb := hz.out.newBox [.int .u64 z.x.uid, .slice z.a z.x.flags.length z.c, .int .u64 z.x.mod, .string z.x.hash, .int .u64 z.x.size].toArray 66
        have hcall := goes1_any z B M c d wb q.uids y.au y.cu (mostB (x.rows.map LtV.x)) (box_cell (hzb.box 3 rfl).1 0) (box_cell (hzb.box 1 rfl).1 0) (box_cell (hzb.box 4 rfl).1 15) (hzb.capOf 2 rfl).1 (hzb.capOf 2 rfl).2 (RqIn.below hin.out hzb.bel).1 hq.out.ul (hzb.fl 10 rfl (hk.out.2 x hxm.out z hzm)) (by have := hxf.out z hzm; omega)
        replace hcall : Calls Tryz.prog 75 #[.agg #[.int .u64 z.x.uid, .slice z.a z.x.flags.length z.c, .int .u64 z.x.mod, .string z.x.hash, .int .u64 z.x.size], .pointer (some ⟨B, 0, none⟩), .pointer (some ⟨M, 0, none⟩)] (wr.alloc (.cells #[.int .u64 z.x.uid, .slice z.a z.x.flags.length z.c, .int .u64 z.x.mod, .string z.x.hash, .int .u64 z.x.size] 66)) fun e w' => e = .returned (.bool (goesB (x.rows.map LtV.x) q z.x)) ∧ Hid (Below (wr.alloc (.cells #[.int .u64 z.x.uid, .slice z.a z.x.flags.length z.c, .int .u64 z.x.mod, .string z.x.hash, .int .u64 z.x.size] 66)).heap.size (wr.alloc (.cells #[.int .u64 z.x.uid, .slice z.a z.x.flags.length z.c, .int .u64 z.x.mod, .string z.x.hash, .int .u64 z.x.size] 66)) w') := hcall
        have hl1 : (j : Int) < (x.rows.length : Int) := by omega
        have hlm : j < (x.rows.map LtV.x).length := by rw [List.length_map]; exact hlt
        have hzj : (x.rows.map LtV.x)[j] = z.x := by rw [List.getElem_map, hzx]
        have hlen : Hid ((o.uids ++ goneAt (x.rows.map LtV.x) q j).length ≤ 20000) := Lib.hid (by
          have := goneAt_len (x.rows.map LtV.x) q j
          rw [List.length_map] at this
          rw [List.length_append]; omega)
        have hno : Hid (goesB (x.rows.map LtV.x) q z.x = false → goneAt (x.rows.map LtV.x) q (j + 1) = goneAt (x.rows.map LtV.x) q j) := Lib.hid (fun h => goneAt_no hlm (by rw [hzj]; exact h))
        have hyes : Hid (goesB (x.rows.map LtV.x) q z.x = true → goneAt (x.rows.map LtV.x) q (j + 1) = goneAt (x.rows.map LtV.x) q j ++ [z.x.uid]) := Lib.hid (fun h => by rw [goneAt_yes hlm (by rw [hzj]; exact h), hzj])
        replace hcall := Lib.hid hcall
        replace hzb := Lib.hid hzb
        clear hcells hrow hzx hzm hlm hzj hv2 hv3 hz
        generalize x.rows.map LtV.x = ls at *
        generalize hus : o.uids ++ goneAt ls q j = us at *
        replace hus := Lib.hid hus
        go_wp2_with fail
        refine hcall.out.mono ?_
        rintro e w1 ⟨rfl, hb1⟩
        have hz2 := hzb.out.below hb1.out
        generalize hB : wr.heap.size = Lb at hz2 ⊢
        clear r0 r1 r2 r3 r4 hb1 hzb hcall hB
        cases hgz : goesB ls q z.x with
        | false =>
          have e := Lib.hid (hno.out hgz)
          have hz3 := Lib.hid hz2.tail
          clear hno hyes hgz hz2 hv1
          go_wp2_with fail
          go_roundw
          case rel => exact ⟨j + 1, a, cc, by go_num, by omega, Lib.hid (by rw [e.out, hus.out]; exact hz3.out)⟩
          case measure => simp [intOf] <;> omega
        | true =>
          have e := Lib.hid (hyes.out hgz)
          have hz3 := hz2.drew
          have s0 : w1.drew.cell? ⟨B, 0, none⟩ = some (.pointer (some ⟨wb, 0, none⟩)) := box_cell (hz3.box 3 rfl).1 0
          have s26 : w1.drew.cell? ⟨wb, 26, none⟩ = some (.slice a us.length cc) := box_cell (hz3.box 4 rfl).1 26
          have sL : w1.drew.cell? ⟨Lb, 0, none⟩ = some (.int .u64 z.x.uid) := box_cell (hz3.box 0 rfl).1 0
          clear hno hyes hgz hz2 hv1
          go_wp2_with fail
          refine wp_region_hd (fun w' => w'.cell? ⟨B, 0, none⟩ = some (.pointer (some ⟨wb, 0, none⟩)) ∧ w'.cell? ⟨wb, 26, none⟩ = some (.slice a us.length cc) ∧ w'.cell? ⟨Lb, 0, none⟩ = some (.int .u64 z.x.uid)) 10 4 (by kernel_rfl) rfl ⟨by kernel_rfl, by kernel_rfl, by kernel_rfl, by decide⟩ ⟨s0, s26, sL⟩ (fun hok hS0 => ?_)
          generalize w1.drew = Wd at *
          refine Hd.take (i := 0) (v := ?tv98) hok rfl (by kernel_rfl) (fun _ _ _ h => h) (Or.inl ⟨by rfl, ?ty98⟩) (by assumption) ?tr98
          case ty98 => (intro w hSw; (try dsimp only at hSw); go_simp; (try with_reducible rfl))
          try simp only [List.getElem_toArray, List.getElem_cons_succ, List.getElem_cons_zero, Act.put, List.setIfInBounds_toArray, List.set_cons_zero, List.set_cons_succ]
          refine Hd.take (i := 1) (v := ?tv99) hok rfl (by kernel_rfl) (fun _ _ _ h => h) (Or.inl ⟨by rfl, ?ty99⟩) (by assumption) ?tr99
          case ty99 => (intro w hSw; (try dsimp only at hSw); go_simp; (try with_reducible rfl))
          try simp only [List.getElem_toArray, List.getElem_cons_succ, List.getElem_cons_zero, Act.put, List.setIfInBounds_toArray, List.set_cons_zero, List.set_cons_succ]
          refine Hd.take (i := 2) (v := ?tv100) hok rfl (by kernel_rfl) (fun _ _ _ h => h) (Or.inl ⟨by rfl, ?ty100⟩) (by assumption) ?tr100
          case ty100 => (intro w hSw; (try dsimp only at hSw); go_simp; (try with_reducible rfl))
          try simp only [List.getElem_toArray, List.getElem_cons_succ, List.getElem_cons_zero, Act.put, List.setIfInBounds_toArray, List.set_cons_zero, List.set_cons_succ]
          refine Hd.take (i := 3) (v := ?tv101) hok rfl (by kernel_rfl) (fun _ _ _ h => h) (Or.inl ⟨by rfl, ?ty101⟩) (by assumption) ?tr101
          case ty101 => (intro w hSw; (try dsimp only at hSw); go_simp; (try with_reducible rfl))
          try simp only [List.getElem_toArray, List.getElem_cons_succ, List.getElem_cons_zero, Act.put, List.setIfInBounds_toArray, List.set_cons_zero, List.set_cons_succ]
          refine Hd.take (i := 4) (v := ?tv102) hok rfl (by kernel_rfl) (fun _ _ _ h => h) (Or.inl ⟨by rfl, ?ty102⟩) (by assumption) ?tr102
          case ty102 => (intro w hSw; (try dsimp only at hSw); go_simp; (try with_reducible rfl))
          try simp only [List.getElem_toArray, List.getElem_cons_succ, List.getElem_cons_zero, Act.put, List.setIfInBounds_toArray, List.set_cons_zero, List.set_cons_succ]
          refine Hd.take (i := 5) (v := ?tv103) hok rfl (by kernel_rfl) (fun _ _ _ h => h) (Or.inl ⟨by rfl, ?ty103⟩) (by assumption) ?tr103
          case ty103 => (intro w hSw; (try dsimp only at hSw); go_simp; (try with_reducible rfl))
          try simp only [List.getElem_toArray, List.getElem_cons_succ, List.getElem_cons_zero, Act.put, List.setIfInBounds_toArray, List.set_cons_zero, List.set_cons_succ]
          refine Hd.take (i := 6) (v := ?tv104) hok rfl (by kernel_rfl) (fun _ _ _ h => h) (Or.inl ⟨by rfl, ?ty104⟩) (by assumption) ?tr104
          case ty104 => (intro w hSw; (try dsimp only at hSw); go_simp; (try with_reducible rfl))
          try simp only [List.getElem_toArray, List.getElem_cons_succ, List.getElem_cons_zero, Act.put, List.setIfInBounds_toArray, List.set_cons_zero, List.set_cons_succ]
          refine Hd.take (i := 7) (v := ?tv105) hok rfl (by kernel_rfl) (fun _ _ _ h => h) (Or.inl ⟨by rfl, ?ty105⟩) (by assumption) ?tr105
          case ty105 => (intro w hSw; (try dsimp only at hSw); go_simp; (try with_reducible rfl))
          try simp only [List.getElem_toArray, List.getElem_cons_succ, List.getElem_cons_zero, Act.put, List.setIfInBounds_toArray, List.set_cons_zero, List.set_cons_succ]
          refine Hd.one (i := 8) rfl (by kernel_rfl) (fun K hK => ?_)
          go_simp
          have hzA := hz3.alloc (.cells (u64T.enc z.x.uid).toArray 23)
          refine hK _ _ ⟨cell_old _ s0, cell_old _ s26, cell_old _ sL⟩ ?_
          clear hK K
          try simp only [List.getElem_toArray, List.getElem_cons_succ, List.getElem_cons_zero, Act.put, List.setIfInBounds_toArray, List.set_cons_zero, List.set_cons_succ]
          refine Hd.one (i := 9) rfl (by kernel_rfl) (fun K hK => ?_)
          have hown1 := RT.Own.one u64T Wd z.x.uid Wd.heap.size rfl
          obtain ⟨F, ⟨ho1, hF⟩, -, hact⟩ := hzA.act 5 (u64T.row (.slice a us.length cc) us) rfl
          refine u64T.step_append rfl (.tmp 37) (.tmp 40) rfl _ _ us [z.x.uid] rfl rfl ho1 hown1.rd (by rw [List.length_singleton]; have := hlen.out; omega) ?_
          intro v8 w8 ho8 hg8 hat8
          have hz8 := hact (u64T.row v8 (us ++ [z.x.uid])) (fun k => v8.ownBlock = some k) w8 ⟨ho8, fun _ => Iff.rfl⟩ (grows_row hF hg8 hat8)
          obtain ⟨a8, c8, hv8⟩ := ho8.len
          subst hv8
          have t0 : w8.cell? ⟨B, 0, none⟩ = some (.pointer (some ⟨wb, 0, none⟩)) := box_cell (hz8.box 3 rfl).1 0
          have t26 : w8.cell? ⟨wb, 26, none⟩ = some (.slice a us.length cc) := box_cell (hz8.box 4 rfl).1 26
          have tL : w8.cell? ⟨Lb, 0, none⟩ = some (.int .u64 z.x.uid) := box_cell (hz8.box 0 rfl).1 0
          have f26 := box_free (hz8.box 4 rfl).1 26
          refine hK _ _ ⟨t0, t26, tL⟩ ?_
          clear hK K
          try simp only [List.getElem_toArray, List.getElem_cons_succ, List.getElem_cons_zero, Act.put, List.setIfInBounds_toArray, List.set_cons_zero, List.set_cons_succ]
          refine Hd.done (by kernel_rfl) ?_
          simp only [List.drop_succ_cons, List.drop_zero]
          have hz9 := hz8.setBox 4 rfl 26 (.slice a8 (us ++ [z.x.uid]).length c8)
          replace hz9 : Hid (Zoo W0 (w8.setCell ⟨wb, 26, none⟩ (.slice a8 (us ++ [z.x.uid]).length c8)) (boxT M #[meantF c d] 102 :: capT c d wb (mostB ls) :: boxT B #[.pointer (some ⟨wb, 0, none⟩)] 93 :: workL wb { k with aU := a8, cU := c8 } m q y { o with uids := us ++ [z.x.uid] })) := Lib.hid hz9.tail
          generalize (us ++ [z.x.uid]).length = n8 at *
          rw [← hus.out, List.append_assoc, ← e.out] at hz9
          clear hz8 hact ho8 hg8 hat8 ho1 hF hown1 hzA hz3 s0 s26 sL hok hS0
          go_wp2_with fail
          go_roundw
          case rel => exact ⟨j + 1, a8, c8, by go_num, by omega, hz9⟩
          case measure => simp [intOf] <;> omega
      · obtain rfl : j = (x.rows.map LtV.x).length := by rw [List.length_map]; omega
        rw [goneAt_all] at hz
        have hl1 : (x.rows.length : Int) ≤ (((x.rows.map LtV.x).length : Nat) : Int) := by rw [List.length_map]; omega
        generalize hus : o.uids ++ goneL (x.rows.map LtV.x) q = us at *
        generalize (x.rows.map LtV.x).length = n at hl1 ⊢
        have c0 : wr.cell? ⟨B, 0, none⟩ = some (.pointer (some ⟨wb, 0, none⟩)) := box_cell (hz.out.box 2 rfl).1 0
        have c26 : wr.cell? ⟨wb, 26, none⟩ = some (.slice a us.length cc) := box_cell (hz.out.box 3 rfl).1 26
        obtain ⟨g', hg', hglt, hbox, hfr⟩ := work_box hz.out.tail.tail.tail rfl hil
        obtain rfl : g = g' := by have h := hg.out.symm.trans hg'; injection h with h; injection h
        rw [show ({ k with aU := a, cU := cc } : WkV).bs[i] = x from hx.out] at hbox
        have b3 := hbox.c3
        have b4 := hbox.c4
        have f4 := hfr (i * 5 + 4)
        have hok2 : Hid (WkOk { k with aU := a, cU := cc } m) := Lib.hid ⟨hk.out.1, hk.out.2⟩
        by_cases hu0 : us = []
        · subst hu0
          have hr : Hid (expungeM m q o = (0, m, { o with uids := [] })) := Lib.hid (by rw [hr0.out, if_pos rfl])
          replace hz := Lib.hid hz.out.tail.tail.tail
          clear hr0 hg' hbox hfr
          go_wp2_with fail
          go_ret
          exact WkRet.of hr.out ⟨_, rfl, hok2, hz⟩
        · have hu1 : ((us.length : Int) == 0) = false := by
            have : us.length ≠ 0 := fun h => hu0 (List.eq_nil_of_length_eq_zero h)
            simp; omega
          by_cases hhi : 9223372036854775807 ≤ x.high
          · have hhi2 : (9223372036854775807 : Int) ≤ (x.high : Int) := by omega
            have hr : Hid (expungeM m q o = (13, m, { o with uids := us })) := Lib.hid (by rw [hr0.out, if_neg hu0, if_pos hhi])
            replace hz := Lib.hid hz.out.tail.tail.tail
            clear hr0 hg' hbox hfr hu0
            go_wp2_with fail
            go_ret
            exact WkRet.of hr.out ⟨_, rfl, hok2, hz⟩
          · have hhi2 : decide ((9223372036854775807 : Int) ≤ (x.high : Int)) = false := decide_eq_false (by omega)
            have hhi3 : x.high + 1 < 18446744073709551616 := by omega
            have hr := Lib.hid hr0.out
            rw [if_neg hu0, if_neg hhi] at hr
            have hrow := work_let0 (wb := wb) (k := { k with aU := a, cU := cc }) (m := m) (q := q) (y := y) (o := { o with uids := us }) i hil
            rw [show ({ k with aU := a, cU := cc } : WkV).bs[i] = x from hx.out] at hrow
            have hfront := hz.out.front (i + 10) hrow
            have hdel := Lib.hid (goesDel_any x.v x.rows (fun z => goesB (x.rows.map LtV.x) q z.x) (.pointer (some ⟨B, 0, none⟩)) (.pointer (some ⟨M, 0, none⟩)) (by omega) hfront (fun z hzm W2 l2 h2 => goes1_any z B M c d wb q.uids y.au y.cu (mostB (x.rows.map LtV.x)) (box_cell (h2.box 3 rfl).1 0) (box_cell (h2.box 1 rfl).1 0) (box_cell (h2.box 4 rfl).1 15) (h2.capOf 2 rfl).1 (h2.capOf 2 rfl).2 (RqIn.below hin.out h2.bel).1 hq.out.ul (h2.fl 10 rfl (hk.out.2 x hxm.out z hzm)) (by have := hxf.out z hzm; omega)))
            unfold BxV.v at hdel
            clear hfront hr0 hg' hbox hfr hu0 hrow hhi
            go_wp2_with fail
            refine hdel.out.mono ?_
            rintro e w5 ⟨v5, rfl, hz5⟩
            obtain ⟨a5, n5, hv5⟩ := (hz5.out.own 0 rfl).len
            subst hv5
            have hz6 := Zoo.back (L := boxT M #[meantF c d] 102 :: capT c d wb (mostB (x.rows.map LtV.x)) :: boxT B #[.pointer (some ⟨wb, 0, none⟩)] 93 :: workL wb { k with aU := a, cU := cc } m q y { o with uids := us }) (i + 10) (by
              have := (List.getElem?_eq_some_iff.1 (work_let0 (wb := wb) (k := { k with aU := a, cU := cc }) (m := m) (q := q) (y := y) (o := { o with uids := us }) i hil)).1
              simp only [List.length_cons]; omega) hz5.out
            replace hz6 := hz6.tail.tail.tail
            obtain ⟨x1, hx1e⟩ : ∃ x1 : BxV, { x with rows := x.rows.filter (fun z => !goesB (x.rows.map LtV.x) q z.x), a := a5, c := n5 } = x1 := ⟨_, rfl⟩
            have hz6' : Zoo W0 w5 ((workL wb { k with aU := a, cU := cc } m q y { o with uids := us }).set (i + 7) (ltT.row x1.v x1.rows)) := by rw [← hx1e]; exact hz6
            obtain ⟨g', hg', -, hbox, hfr⟩ := work_box hz6' rfl hil
            obtain rfl : g = g' := by have h := hg.out.symm.trans hg'; injection h with h; injection h
            rw [show ({ k with aU := a, cU := cc } : WkV).bs[i] = x from hx.out] at hbox
            have d3 := hbox.c3
            have d4 := hbox.c4
            have f3 := hfr (i * 5 + 3)
            have f4' := hfr (i * 5 + 4)
            have hz7 := work_store0 (k := { k with aU := a, cU := cc }) hil x1 hz6' hg.out 4 (by decide) (.slice a5 (x.rows.filter (fun z => !goesB (x.rows.map LtV.x) q z.x)).length n5) (by
              rw [← hx1e]
              show _ = (bxT.enc (k.bs[i]'hil)).set 4 _
              rw [hx.out]
              rfl)
            have hxl1 : HasL k.S x1.rows := by rw [← hx1e]; exact fun z hz => hk.out.2 x hxm.out z (List.mem_filter.1 hz).1
            obtain ⟨k2, m2, hk2, hm2, hok3, hg2, hil2, hx2⟩ := hok2.out.bump hil x1 hxl1
            rw [hk2, hm2] at hz7
            have hx2' := hx2 hil2
            have hz8 := work_store1 (k := k2) hil2 { x1 with high := x.high + 1 } hz7 (by rw [hx2']) (by rw [hx2']; rfl) (hg2.trans hg.out) 3 (by decide) (.int .u64 ((x.high : Int) + 1)) (by rw [hx2', ← hx1e]; rfl)
            have hok4 := WkOk.set (i := i) hok3 { x1 with high := x.high + 1 } (by rw [← hk2]; exact hxl1)
            have hm3 : setM m2 i ({ x1 with high := x.high + 1 } : BxV).b = setM m i { x.b with high := x.high + 1, letters := (x.rows.map LtV.x).filter (fun z => !goesB (x.rows.map LtV.x) q z) } := by
              rw [← hm2, ← hx1e]
              unfold setM BxV.b
              dsimp only
              rw [List.set_set, List.filter_map]
              rfl
            rw [hm3] at hz8 hok4
            replace hz8 := Lib.hid hz8
            replace hok4 := Lib.hid hok4
            clear hz7 hz6 hz6' hz5 hdel hbox hfr hg' hx1e hxl1 hk2 hm2 hok3 hg2 hx2 hx2' hm3 hok2 hz b3 b4 f4 c0 c26 hxf hu1
            generalize (x.rows.filter (fun z => !goesB (x.rows.map LtV.x) q z.x)).length = n5' at *
            go_wp2_with fail
            go_ret
            exact WkRet.of hr.out ⟨_, rfl, hok4, hz8⟩
end Go.Proofs.YtcnebfmlelcliaaGreat
namespace Go.Proofs.YtcnebfmlelcliaaGreat
set_option linter.unusedSimpArgs false
open Go.RowKit

/-- letters under new numbers -/
def copyL (h : Nat) : Nat → List Lt → List Lt
  | _, [] => []
  | n, x :: r => { x with uid := n, mod := h } :: copyL h (n + 1) r
theorem copyL_snoc (h : Nat) (x : Lt) : ∀ (l : List Lt) (n : Nat), copyL h n (l ++ [x]) = copyL h n l ++ [{ x with uid := n + l.length, mod := h }]
  | [], n => rfl
  | z :: r, n => by
    show _ :: copyL h (n + 1) (r ++ [x]) = _ :: (copyL h (n + 1) r ++ _)
    rw [copyL_snoc h x r (n + 1), List.length_cons, show n + 1 + r.length = n + (r.length + 1) from by omega]
theorem copyL_len (h : Nat) : ∀ (l : List Lt) (n : Nat), (copyL h n l).length = l.length
  | [], _ => rfl
  | _ :: r, n => by show (copyL h (n + 1) r).length + 1 = r.length + 1; rw [copyL_len h r (n + 1)]
/-- a mailbox with letters copied to it -/
def copied (d : Bx) (l : List Lt) : Bx := { d with next := d.next + l.length, high := d.high + 1, letters := d.letters ++ copyL (d.high + 1) d.next l }
theorem copied_snoc (d : Bx) (l : List Lt) (x : Lt) : copied d (l ++ [x]) = { copied d l with next := (copied d l).next + 1, letters := (copied d l).letters ++ [{ x with uid := (copied d l).next, mod := (copied d l).high }] } := by
  unfold copied
  dsimp only
  rw [copyL_snoc, List.length_append, List.length_singleton, List.append_assoc]
  rfl
def copyM (m : Ml) (q : Rq) (o : Oc) : Int × Ml × Oc := match namedI m q with
  | none => (6, m, o)
  | some i => match m.boxes[i]? with
    | none => (6, m, o)
    | some b => match m.boxes.findIdx? (fun x => x.name.toList == q.to_.toList) with
      | none => (21, m, o)
      | some t => match m.boxes[t]? with
        | none => (21, m, o)
        | some d =>
          if b.letters.filter (meantB b.letters q) = [] then (0, m, { o with validity := d.validity })
          else if 32 < d.letters.length + (b.letters.filter (meantB b.letters q)).length then (7, m, { o with validity := d.validity })
          else if 4294967296 < d.next + (b.letters.filter (meantB b.letters q)).length ∨ 9223372036854775807 ≤ d.high then (13, m, { o with validity := d.validity })
          else (0, setM m t (copied d (b.letters.filter (meantB b.letters q))), { o with validity := d.validity, uids := o.uids ++ List.range' d.next (b.letters.filter (meantB b.letters q)).length })
theorem setM_set (m : Ml) (i : Nat) (a b : Bx) : setM (setM m i a) i b = setM m i b := by unfold setM; dsimp only; rw [List.set_set]
theorem setM_get {m : Ml} {i : Nat} (hi : i < m.boxes.length) (b : Bx) : (setM m i b).boxes[i]? = some b := by unfold setM; dsimp only; rw [List.getElem?_set_self hi]
theorem setM_len (m : Ml) (i : Nat) (b : Bx) : (setM m i b).boxes.length = m.boxes.length := List.length_set
section
variable {W0 W : World} {wb : Nat} {k : WkV} {m : Ml} {q : Rq} {y : RqV} {o : Oc}
theorem work_storeL {E : List Th} {i : Nat} (hi : i < k.bs.length) (x : BxV) (hz : Zoo W0 W (E ++ (workL wb k m q y o).set (i + 7) (ltT.row x.v x.rows))) {g : Nat} (hg : k.ab = some ⟨g, 0, none⟩) (r : Nat) (hr : r < 5) (u : Value) (hx : bxT.enc x = (bxT.enc k.bs[i]).set r u) :
    Zoo W0 (W.setCell ⟨g, i * 5 + r, none⟩ u) (E ++ workL wb (setB k i x) (setM m i x.b) q y o) := by
  have h1 := hz.perm List.perm_append_comm
  have hl := (List.getElem?_eq_some_iff.1 (work_let0 (wb := wb) (k := k) (m := m) (q := q) (y := y) (o := o) i hi)).1
  have h2 := work_store (E := E) hi x (by rw [List.set_append_left _ _ hl]; exact h1) hg r hr u hx
  exact h2.perm List.perm_append_comm
theorem work_same0 (i : Nat) (hi : i < k.bs.length) (x : BxV) (hr : x.rows = k.bs[i].rows) (hv : x.v = k.bs[i].v) : (workL wb k m q y o).set (i + 7) (ltT.row x.v x.rows) = workL wb k m q y o := by
  have := work_same (wb := wb) (m := m) (q := q) (y := y) (o := o) (E := []) i hi x hr hv
  rwa [List.append_nil] at this
theorem work_storeL' {E : List Th} {i : Nat} (hi : i < k.bs.length) (x : BxV) (hz : Zoo W0 W (E ++ workL wb k m q y o)) (hrow : x.rows = k.bs[i].rows) (hv : x.v = k.bs[i].v) {g : Nat} (hg : k.ab = some ⟨g, 0, none⟩) (r : Nat) (hr : r < 5) (u : Value) (hx : bxT.enc x = (bxT.enc k.bs[i]).set r u) :
    Zoo W0 (W.setCell ⟨g, i * 5 + r, none⟩ u) (E ++ workL wb (setB k i x) (setM m i x.b) q y o) :=
  work_storeL hi x (by rw [work_same0 i hi x hrow hv]; exact hz) hg r hr u hx
end
/-- how far a copy is -/
structure CpSt (k0 : WkV) (m : Ml) (t : Nat) (d : Bx) (out : List LtV) (k : WkV) (j : Nat) : Prop where
  ok : WkOk k (setM m t (copied d ((out.take j).map LtV.x)))
  ab : k.ab = k0.ab
  has : HasL k.S out
  le : j ≤ out.length
theorem CpSt.at_ {k0 : WkV} {m : Ml} {t : Nat} {d : Bx} {out : List LtV} {k : WkV} {j : Nat} (h : CpSt k0 m t d out k j) (ht : t < m.boxes.length) : ∃ hl : t < k.bs.length, k.bs[t].b = copied d ((out.take j).map LtV.x) := by
  have hl : t < k.bs.length := by rw [h.ok.len, setM_len]; exact ht
  refine ⟨hl, ?_⟩
  have h1 := h.ok.get hl
  rw [setM_get ht] at h1
  exact (Option.some.inj h1).symm
end Go.Proofs.YtcnebfmlelcliaaGreat
namespace Go.Proofs.YtcnebfmlelcliaaGreat
open Go.RowKit Go.Lib Go.Sort

theorem HoldsSl.mono {B B' : Nat} {w : World} {v : Value} {l : List (List UInt8)} (h : HoldsSl B w v l) (hb : B' ≤ B) : HoldsSl B' w v l := by
  obtain ⟨ao, cap, hv, h⟩ := h
  refine ⟨ao, cap, hv, h.imp id ?_⟩
  rintro ⟨g, ha, hg, r⟩
  exact ⟨g, ha, Nat.le_trans hb hg, r⟩
def RetNew (l : List (List UInt8)) (w : World) (e : Ending) (w' : World) : Prop := ∃ v', e = .returned v' ∧ Hid (HoldsSl w.heap.size w' v' l) ∧ Hid (Below w.heap.size w w')
theorem becomes_new (u v : Value) (l : List (List UInt8)) (w : World) (hr : Rd w v l.length (l.map encStr)) (hl : l.length * 16 ≤ 140737488355328) :
    Calls Tryz.prog 101 #[u, v] w (RetNew (fset l) w) := by
  have hr0 := Lib.hid hr
  obtain ⟨ao, cap, rfl, -⟩ := hr
  go_enter Tryz.func101, Tryz.ntmps101
  go_wp2_with fail
  refine (set_any _ l w hr0.out hl).mono ?_
  rintro e w1 ⟨v1, rfl, h1, b1⟩
  have hrd := Lib.hid h1.out
  obtain ⟨ao1, cap1, rfl, -⟩ : ∃ ao cap, v1 = .slice ao (fset l).length cap ∧ True := by
    obtain ⟨ao, cap, h, _⟩ := h1.out; exact ⟨ao, cap, h, trivial⟩
  clear h1
  go_wp2_with fail
  go_ret
  exact ⟨_, rfl, hrd, b1⟩
set_option maxRecDepth 100000 in
set_option maxHeartbeats 2000000 in
theorem without_new (v u : Value) (l by_ : List (List UInt8)) (w : World) (hr : Rd w v l.length (l.map encStr)) (hu : Rd w u by_.length (by_.map encStr)) (hl : l.length * 16 ≤ 140737488355328) (hul : by_.length * 16 ≤ 140737488355328) :
    Calls Tryz.prog 103 #[v, u] w (RetNew ((fset l).filter fun x => !decide (x ∈ by_)) w) := by
  have eg : ∀ args w, (callFunc 129 args).run Tryz.prog w = .ok (.enter 129 args) w := enters_of Tryz.func129 (by kernel_rfl) rfl
  have hr0 := Lib.hid hr
  have hu0 := Lib.hid hu
  obtain ⟨ao, cap, rfl, -⟩ := hr
  obtain ⟨ao2, cap2, rfl, -⟩ := hu
  go_enter Tryz.func103, Tryz.ntmps103
  go_wp2_with fail
  have b0 : Below w.heap.size w (w.alloc (.cells #[.slice ao2 by_.length cap2] 48)) := (Lays.alloc _ _).below
  have hc0 : (w.alloc (.cells #[.slice ao2 by_.length cap2] 48)).cell? ⟨w.heap.size, 0, none⟩ = some (.slice ao2 by_.length cap2) := by simp
  have hz0 : (w.alloc (.cells #[.slice ao2 by_.length cap2] 48)).heap.size = w.heap.size + 1 := by simp
  refine (set_any _ l _ (hr0.out.below b0) hl).mono ?_
  generalize w.alloc (.cells #[.slice ao2 by_.length cap2] 48) = w0 at b0 hc0 hz0 ⊢
  rintro e w1 ⟨v1, rfl, h1, b1⟩
  have b01 : Below w.heap.size w w1 := b0.trans (b1.out.mono (by omega))
  have hat : ∀ W, Below (w.heap.size + 1) w1 W → Calls Tryz.prog 129 #[encStr [], .pointer (some ⟨w.heap.size, 0, none⟩)] W (fun e w' => True) ∧ ∀ x, FnGives Tryz.prog 129 #[.pointer (some ⟨w.heap.size, 0, none⟩)] #[encStr x] (.bool (decide (x ∈ by_))) W := fun W hW => by
    have hbW : Below w.heap.size w W := b01.trans (hW.mono (by omega))
    have hcW : W.cell? ⟨w.heap.size, 0, none⟩ = some (.slice ao2 by_.length cap2) := by
      rw [hW.cell (p := ⟨w.heap.size, 0, none⟩) (by simp), b1.out.cell (p := ⟨w.heap.size, 0, none⟩) (by simp; omega)]
      exact hc0
    have key := fun x => no1_any x w.heap.size (.slice ao2 by_.length cap2) by_ W hcW (hu0.out.below hbW) hul
    exact ⟨(key []).mono fun _ _ _ => trivial, fun x => (key x).mono fun _ _ ⟨he, hw⟩ => ⟨he, 0, hw.symm⟩⟩
  rcases h1.out with ⟨ao1, cap1, rfl, h1e | ⟨g, rfl, hg, hgl, hcap, hH⟩⟩
  · have he : (fset l).filter (fun x => !decide (x ∈ by_)) = [] := by rw [h1e]; rfl
    have hz : (fset l).length = 0 := by rw [h1e]; rfl
    rw [hz]
    clear hat h1
    go_wp2_with fail
    refine (deleteFunc_none ao1 cap1 _ w1).mono ?_
    rintro e w2 ⟨rfl, rfl⟩
    go_wp2_with fail
    go_ret
    exact ⟨_, rfl, Lib.hid (by rw [he]; exact ⟨ao1, cap1, rfl, .inl rfl⟩), Lib.hid b01⟩
  · have hle : (fset l).length ≤ l.length := setS_len flt l
    have hdel := Tryz.slices_DeleteFunc encStr one_encStr (fun x => decide (x ∈ by_)) 129 #[.pointer (some ⟨w.heap.size, 0, none⟩)] eg ([] : List UInt8) (fun w => by
        have h := str_info
        simp only [Option.map_eq_some_iff] at h
        obtain ⟨i, hi, he⟩ := h
        have hz : i.zero = some (.string ⟨#[]⟩) := congrArg (·.1) he
        simp [zeroValue, typeInfo, hi, hz, encStr]) g 0 cap1 (fset l).toArray w1
      (fun W x hW => (hat W (hW.mono (by have := b1.out.size; omega))).2 x)
      (fun n os dk x _ => (hat _ (below_sortWorld (Below.refl _ _) n g 0 dk os (by omega) (by have := b1.out.size; omega))).2 x)
      hH (by simp; omega) (by simpa using hcap)
    rw [show (fset l).toArray.size = (fset l).length from by simp] at hdel
    replace hdel := Lib.hid hdel
    replace hH := Lib.hid hH
    clear hat h1 b0 hc0
    obtain ⟨R, hR⟩ : ∃ R, Hid (R = (fset l).filter fun x => !decide (x ∈ by_)) := ⟨_, Lib.hid rfl⟩
    have hRl : R.length ≤ (fset l).length := by rw [hR.out]; exact List.length_filter_le _ _
    go_wp2_with fail
    refine hdel.out.mono ?_
    rintro e w2 ⟨rfl, q, hw2⟩
    have e1 : ((fset l).toArray.toList.filter fun x => !decide (x ∈ by_)) = R := by rw [hR.out]
    simp only [e1] at hw2
    rw [e1]
    have hH2 : Holds encStr w2 g 0 R.toArray := by
      rw [hw2]
      refine holds_left (b := List.replicate ((fset l).length - R.length) []) ?_
      exact holds_putRow encStr _ g 0 (fset l).toArray _ hH.out (by simp; omega)
    have hgl2 : g < w2.heap.size := by rw [hw2, size_putRow]; exact hgl
    have b2 : Below w.heap.size w w2 := by rw [hw2]; exact below_putRow b01 q g 0 _ (by omega)
    have hrd : Hid (HoldsSl w.heap.size w2 (.slice (some ⟨g, 0, none⟩) R.length cap1) R) := Lib.hid ⟨_, cap1, rfl, .inr ⟨g, rfl, by omega, hgl2, by omega, hH2⟩⟩
    replace b2 := Lib.hid b2
    clear hw2 hdel e1 hH2
    go_wp2_with fail
    go_ret
    exact ⟨_, rfl, Lib.hid (by rw [← hR.out]; exact hrd.out), b2⟩
theorem with_new (v u : Value) (l m : List (List UInt8)) (w : World) (hr : Rd w v l.length (l.map encStr)) (hu : Rd w u m.length (m.map encStr)) (hl : l.length ≤ 100) (hm : m.length ≤ 100) :
    Calls Tryz.prog 102 #[v, u] w (RetNew (fset (l ++ m)) w) := by
  have hr0 := Lib.hid hr
  have hu0 := Lib.hid hu
  obtain ⟨ao, cap, rfl, -⟩ := hr
  obtain ⟨ao2, cap2, rfl, -⟩ := hu
  go_enter Tryz.func102, Tryz.ntmps102
  go_wp2_with fail
  have b0 : Below w.heap.size w (w.alloc (.cells #[.slice ao l.length cap, .slice ao2 m.length cap2] 150)) := (Lays.alloc _ _).below
  refine (concat_any w.heap.size (.slice ao l.length cap) (.slice ao2 m.length cap2) l m _ (by simp) (by simp) (by simp) (hr0.out.below b0) (hu0.out.below b0) hl hm).mono ?_
  rintro e w1 ⟨v1, rfl, o1, b1⟩
  have b1' := Lib.hid (b0.trans (b1.out.mono b0.size))
  clear b0 b1
  go_wp2_with fail
  refine (set_any _ (l ++ m) w1 o1.out.rd (by simp; omega)).mono ?_
  rintro e w2 ⟨v2, rfl, h2, b2⟩
  have b2' := Lib.hid (b1'.out.trans (b2.out.mono b1'.out.size))
  have hrd := Lib.hid (h2.out.mono b1'.out.size)
  clear b2 h2
  go_wp2_with fail
  go_ret
  exact ⟨_, rfl, hrd, b2'⟩
def ChNew (l : List (List UInt8)) (how : Int) (by_ : List (List UInt8)) (w : World) (e : Ending) (w' : World) : Prop := ∃ v', e = .returned (.tuple #[v', .int .i64 (chCode l how by_ : Int)]) ∧ Hid (HoldsSl w.heap.size w' v' (chSet l how by_)) ∧ Hid (Below w.heap.size w w')
theorem chn_none {l by_ : List (List UInt8)} {how : Int} {w w' : World} (h : chOk l how by_ = false) (hb : Below w.heap.size w w') : ChNew l how by_ w (.returned (.tuple #[.slice none 0 0, .int .i64 1])) w' :=
  ⟨.slice none 0 0, by rw [chCode, h]; rfl, Lib.hid (by rw [chSet, h]; exact ⟨none, 0, rfl, .inl rfl⟩), Lib.hid hb⟩
theorem chn_full {l by_ : List (List UInt8)} {how : Int} {w w' : World} (h : chOk l how by_ = true) (h2 : 16 < (fset (chIn l how by_)).length) (hb : Below w.heap.size w w') : ChNew l how by_ w (.returned (.tuple #[.slice none 0 0, .int .i64 7])) w' :=
  ⟨.slice none 0 0, by rw [chCode, if_pos h, if_pos h2]; rfl, Lib.hid (by rw [chSet, if_pos h, if_pos h2]; exact ⟨none, 0, rfl, .inl rfl⟩), Lib.hid hb⟩
theorem chn_ok {l by_ : List (List UInt8)} {how : Int} {w w' : World} {v : Value} (h : chOk l how by_ = true) (h2 : ¬ 16 < (fset (chIn l how by_)).length) (hr : HoldsSl w.heap.size w' v (fset (chIn l how by_))) (hb : Below w.heap.size w w') : ChNew l how by_ w (.returned (.tuple #[v, .int .i64 0])) w' :=
  ⟨v, by rw [chCode, if_pos h, if_neg h2]; rfl, Lib.hid (by rw [chSet, if_pos h, if_neg h2]; exact hr), Lib.hid hb⟩
set_option maxRecDepth 100000 in
set_option maxHeartbeats 4000000 in
theorem change_new (v u : Value) (l by_ : List (List UInt8)) (how : Int) (w : World) (hr : Rd w v l.length (l.map encStr)) (hu : Rd w u by_.length (by_.map encStr)) (hl : (l.length + 2) * 16 ≤ 140737488355328) (hul : (by_.length + 2) * 16 ≤ 140737488355328) (hs : Sized l) (hus : Sized by_) :
    Calls Tryz.prog 73 #[v, .int .i64 how, u] w (ChNew l how by_ w) := by
  have hr0 := Lib.hid hr
  have hu0 := Lib.hid hu
  replace hs := Lib.hid hs
  replace hus := Lib.hid hus
  obtain ⟨ao, cap, rfl, -⟩ := hr
  obtain ⟨ao2, cap2, rfl, -⟩ := hu
  go_enter Tryz.func73, Tryz.ntmps73
  go_wp2_with fail
  have hc : ∀ W, Below (w.heap.size + 1) (w.alloc (.cells #[.func (.func 101) #[] #[], .func (.func 102) #[] #[], .func (.func 103) #[] #[]] 151)) W → W.cell? ⟨w.heap.size, 0, none⟩ = some (.func (.func 101) #[] #[]) ∧ W.cell? ⟨w.heap.size, 1, none⟩ = some (.func (.func 102) #[] #[]) ∧ W.cell? ⟨w.heap.size, 2, none⟩ = some (.func (.func 103) #[] #[]) := fun W hW => by
    refine ⟨?_, ?_, ?_⟩ <;> (rw [hW.cell (by simp)]; simp)
  have b0 : Below w.heap.size w (w.alloc (.cells #[.func (.func 101) #[] #[], .func (.func 102) #[] #[], .func (.func 103) #[] #[]] 151)) := (Lays.alloc _ _).below
  have hz0 : (w.alloc (.cells #[.func (.func 101) #[] #[], .func (.func 102) #[] #[], .func (.func 103) #[] #[]] 151)).heap.size = w.heap.size + 1 := by simp
  refine (right_any _ l _ (hr0.out.below b0) hl hs.out).mono ?_
  generalize w.alloc (.cells #[.func (.func 101) #[] #[], .func (.func 102) #[] #[], .func (.func 103) #[] #[]] 151) = w0 at hc b0 hz0 ⊢
  rintro e w1 ⟨rfl, b1⟩
  have hb1 : Hid (Below (w.heap.size + 1) w0 w1) := Lib.hid (b1.out.mono (by omega))
  have hb1' : Hid (Below w.heap.size w w1) := Lib.hid (b0.trans (b1.out.mono (by omega)))
  replace hc := Lib.hid hc
  clear b1
  cases hR : rightB l
  · have hno : Hid (chOk l how by_ = false) := Lib.hid (by rw [chOk, hR]; rfl)
    replace hR := Lib.hid hR
    go_wp2_with fail
    go_ret2
    exact chn_none hno.out hb1'.out
  · replace hR := Lib.hid hR
    go_wp2_with fail
    refine (right_any _ by_ w1 (hu0.out.below hb1'.out) hul hus.out).mono ?_
    rintro e w2 ⟨rfl, b2⟩
    have hb2 : Hid (Below (w.heap.size + 1) w0 w2) := Lib.hid (hb1.out.trans (b2.out.mono (by have := hb1.out.size; omega)))
    have hb2' : Hid (Below w.heap.size w w2) := Lib.hid (hb1'.out.trans (b2.out.mono hb1'.out.size))
    clear b2 hb1 hb1' b0 hz0
    cases hR2 : rightB by_
    · have hno : Hid (chOk l how by_ = false) := Lib.hid (by rw [chOk, hR2]; simp)
      replace hR2 := Lib.hid hR2
      go_wp2_with fail
      go_ret2
      exact chn_none hno.out hb2'.out
    · replace hR2 := Lib.hid hR2
      by_cases hlo : how < 0
      · have hno : Hid (chOk l how by_ = false) := Lib.hid (by rw [chOk, decide_eq_false (show ¬ 0 ≤ how by omega)]; simp)
        go_wp2_with fail
        go_ret2
        exact chn_none hno.out hb2'.out
      · by_cases hhi : 3 ≤ how
        · have hno : Hid (chOk l how by_ = false) := Lib.hid (by rw [chOk, decide_eq_false (show ¬ how < 3 by omega)]; simp)
          go_wp2_with fail
          go_ret2
          exact chn_none hno.out hb2'.out
        have hokk := Lib.hid (ch_okk hR.out hR2.out (show 0 ≤ how by omega) (show how < 3 by omega))
        have hl16 := right_16 hR.out
        have hu16 := right_16 hR2.out
        have hr2 := Lib.hid (hr0.out.below hb2'.out)
        have hu2 := Lib.hid (hu0.out.below hb2'.out)
        rcases (show how = 0 ∨ how = 1 ∨ how = 2 by omega) with rfl | rfl | rfl
        · have hcc := (hc.out w2 hb2.out).1
          go_wp2_with fail
          refine (becomes_new _ _ by_ w2 hu2.out (by omega)).mono ?_
          rintro e w3 ⟨v3, rfl, hr3, b3⟩
          have hb3 := Lib.hid (hb2'.out.trans (b3.out.mono hb2'.out.size))
          have hfl : (fset by_).length ≤ (by_).length := setS_len flt _
          have hin : Hid (chIn l 0 by_ = by_) := Lib.hid (rfl)
          obtain ⟨F, hF⟩ : ∃ F, Hid (F = fset by_) := ⟨_, Lib.hid rfl⟩
          have hr3' : Hid (HoldsSl w.heap.size w3 v3 F) := Lib.hid (by rw [hF.out]; exact hr3.out.mono hb2'.out.size)
          rw [← hF.out] at hfl
          have hFI : Hid (F = fset (chIn l 0 by_)) := Lib.hid (by rw [hF.out, hin.out])
          clear hr3 b3 hcc hin hF
          obtain ⟨a3, c3, rfl⟩ : ∃ a c, v3 = .slice a F.length c := by
            obtain ⟨a, c, h, _⟩ := hr3'.out; exact ⟨a, c, h⟩
          have hF40 : F.length ≤ 40 := by
            refine Nat.le_trans hfl ?_
            omega
          clear hfl
          by_cases h16 : 16 < F.length
          · go_wp2_with fail
            go_ret2
            exact chn_full hokk.out (by rw [← hFI.out]; exact h16) hb3.out
          · go_wp2_with fail
            go_ret2
            exact chn_ok hokk.out (by rw [← hFI.out]; exact h16) (by rw [← hFI.out]; exact hr3'.out) hb3.out
        · have hcc := (hc.out w2 hb2.out).2.1
          go_wp2_with fail
          refine (with_new _ _ l by_ w2 hr2.out hu2.out (by omega) (by omega)).mono ?_
          rintro e w3 ⟨v3, rfl, hr3, b3⟩
          have hb3 := Lib.hid (hb2'.out.trans (b3.out.mono hb2'.out.size))
          have hfl : (fset (l ++ by_)).length ≤ ((l ++ by_)).length := setS_len flt _
          have hin : Hid (chIn l 1 by_ = (l ++ by_)) := Lib.hid (rfl)
          obtain ⟨F, hF⟩ : ∃ F, Hid (F = fset (l ++ by_)) := ⟨_, Lib.hid rfl⟩
          have hr3' : Hid (HoldsSl w.heap.size w3 v3 F) := Lib.hid (by rw [hF.out]; exact hr3.out.mono hb2'.out.size)
          rw [← hF.out] at hfl
          have hFI : Hid (F = fset (chIn l 1 by_)) := Lib.hid (by rw [hF.out, hin.out])
          clear hr3 b3 hcc hin hF
          obtain ⟨a3, c3, rfl⟩ : ∃ a c, v3 = .slice a F.length c := by
            obtain ⟨a, c, h, _⟩ := hr3'.out; exact ⟨a, c, h⟩
          have hF40 : F.length ≤ 40 := by
            refine Nat.le_trans hfl ?_
            simp; omega
          clear hfl
          by_cases h16 : 16 < F.length
          · go_wp2_with fail
            go_ret2
            exact chn_full hokk.out (by rw [← hFI.out]; exact h16) hb3.out
          · go_wp2_with fail
            go_ret2
            exact chn_ok hokk.out (by rw [← hFI.out]; exact h16) (by rw [← hFI.out]; exact hr3'.out) hb3.out
        · have hcc := (hc.out w2 hb2.out).2.2
          go_wp2_with fail
          refine (without_new _ _ l by_ w2 hr2.out hu2.out (by omega) (by omega)).mono ?_
          rintro e w3 ⟨v3, rfl, hr3, b3⟩
          have hb3 := Lib.hid (hb2'.out.trans (b3.out.mono hb2'.out.size))
          have hfl : (fset (l.filter fun x => !decide (x ∈ by_))).length ≤ ((l.filter fun x => !decide (x ∈ by_))).length := setS_len flt _
          have hin : Hid (chIn l 2 by_ = (l.filter fun x => !decide (x ∈ by_))) := Lib.hid (ch_in2 l by_)
          obtain ⟨F, hF⟩ : ∃ F, Hid (F = fset (l.filter fun x => !decide (x ∈ by_))) := ⟨_, Lib.hid rfl⟩
          have hr3' : Hid (HoldsSl w.heap.size w3 v3 F) := Lib.hid (by rw [hF.out, right_filter hR.out]; have h := hr3.out; rw [right_set hR.out] at h; exact h.mono hb2'.out.size)
          rw [← hF.out] at hfl
          have hFI : Hid (F = fset (chIn l 2 by_)) := Lib.hid (by rw [hF.out, hin.out])
          clear hr3 b3 hcc hin hF
          obtain ⟨a3, c3, rfl⟩ : ∃ a c, v3 = .slice a F.length c := by
            obtain ⟨a, c, h, _⟩ := hr3'.out; exact ⟨a, c, h⟩
          have hF40 : F.length ≤ 40 := by
            refine Nat.le_trans hfl ?_
            exact Nat.le_trans (List.length_filter_le _ _) (by omega)
          clear hfl
          by_cases h16 : 16 < F.length
          · go_wp2_with fail
            go_ret2
            exact chn_full hokk.out (by rw [← hFI.out]; exact h16) hb3.out
          · go_wp2_with fail
            go_ret2
            exact chn_ok hokk.out (by rw [← hFI.out]; exact h16) (by rw [← hFI.out]; exact hr3'.out) hb3.out
end Go.Proofs.YtcnebfmlelcliaaGreat
namespace Go.Proofs.YtcnebfmlelcliaaGreat
set_option linter.unusedSimpArgs false
open Go.RowKit

/-- a letter that is meant, and held back -/
def stHeld (ls : List Lt) (q : Rq) (x : Lt) : Bool := meantB ls q x && (q.has && decide (q.since < x.mod))
/-- a letter that is meant, and done -/
def stDone (ls : List Lt) (q : Rq) (x : Lt) : Bool := meantB ls q x && !(q.has && decide (q.since < x.mod))
def stTurns (ls : List Lt) (q : Rq) (x : Lt) : Bool := stDone ls q x && !decide (chSet x.flags q.how q.flags = x.flags)
def stFails (ls : List Lt) (q : Rq) (x : Lt) : Bool := stDone ls q x && !decide (chCode x.flags q.how q.flags = 0)
def stNew (ls : List Lt) (q : Rq) (h : Nat) (x : Lt) : Lt := if stTurns ls q x then { x with flags := chSet x.flags q.how q.flags, mod := h + 1 } else x
def doneL (ls : List Lt) (q : Rq) (j : Nat) : List Nat := ((ls.take j).filter (stDone ls q)).map Lt.uid
def heldL (ls : List Lt) (q : Rq) (j : Nat) : List Nat := ((ls.take j).filter (stHeld ls q)).map Lt.uid
def storeO (ls : List Lt) (q : Rq) (o : Oc) (j : Nat) : Oc := { o with uids := o.uids ++ doneL ls q j, mods := o.mods ++ heldL ls q j }
def storeM (m : Ml) (q : Rq) (o : Oc) : Int × Ml × Oc := match namedI m q with
  | none => (6, m, o)
  | some i => match m.boxes[i]? with
    | none => (6, m, o)
    | some b =>
      if rightB q.flags = false ∨ q.how < 0 ∨ 2 < q.how then (1, m, o)
      else if b.letters.any (stFails b.letters q) then (7, m, o)
      else if b.letters.any (stTurns b.letters q) = false then (0, m, storeO b.letters q o b.letters.length)
      else if 9223372036854775807 ≤ b.high then (13, m, o)
      else (0, setM m i { b with high := b.high + 1, letters := b.letters.map (stNew b.letters q b.high) }, storeO b.letters q o b.letters.length)
/-- .. whatever an outcome is that is not handed back -/
def WkRet2 (W0 : World) (wb : Nat) (q : Rq) (y : RqV) (res : Int × Ml × Oc) (e : Ending) (w' : World) : Prop := ∃ o', (res.1 = 0 → o' = res.2.2) ∧ WkRet W0 wb q y (res.1, res.2.1, o') e w'
theorem WkRet2.of {W0 : World} {wb : Nat} {q : Rq} {y : RqV} {res : Int × Ml × Oc} {n : Int} {m : Ml} {o : Oc} {e : Ending} {w' : World} (h : res = (n, m, o)) {o' : Oc} (ho : n = 0 → o' = o) (h2 : WkRet W0 wb q y (n, m, o') e w') : WkRet2 W0 wb q y res e w' := by
  subst h
  exact ⟨o', ho, h2⟩
theorem WkRet.two {W0 : World} {wb : Nat} {q : Rq} {y : RqV} {res : Int × Ml × Oc} {e : Ending} {w' : World} (h : WkRet W0 wb q y res e w') : WkRet2 W0 wb q y res e w' := ⟨res.2.2, fun _ => rfl, h⟩
/-- how far a store is -/
structure StSt (ls : List Lt) (q : Rq) (h : Nat) (S0 S : List (Value × List (List UInt8))) (nx : List LtV) (ch : Bool) (j : Nat) : Prop where
  now : nx.map LtV.x = (ls.take j).map (stNew ls q h) ++ ls.drop j
  has : HasL S nx
  sub : ∀ p ∈ S0, p ∈ S
  ch : ch = (ls.take j).any (stTurns ls q)
  good : (ls.take j).any (stFails ls q) = false
section
variable {ls : List Lt} {q : Rq} {h : Nat} {S0 S : List (Value × List (List UInt8))} {nx : List LtV} {ch : Bool} {j : Nat}
theorem StSt.len (s : StSt ls q h S0 S nx ch j) : nx.length = ls.length := by
  have := congrArg List.length s.now
  rw [List.length_map, List.length_append, List.length_map, List.length_take, List.length_drop] at this
  omega
theorem StSt.at_ (s : StSt ls q h S0 S nx ch j) (hj : j < ls.length) : (nx[j]'(by rw [s.len]; exact hj)).x = ls[j] := by
  have h1 : (nx.map LtV.x)[j]? = ls[j]? := by
    rw [s.now, List.getElem?_append_right (by rw [List.length_map, List.length_take]; omega), List.length_map, List.length_take, List.getElem?_drop]
    congr 1; omega
  rw [List.getElem?_map, List.getElem?_eq_getElem (by rw [s.len]; exact hj), List.getElem?_eq_getElem hj] at h1
  exact Option.some.inj h1
theorem StSt.start {nx : List LtV} (h1 : nx.map LtV.x = ls) (h2 : HasL S0 nx) : StSt ls q h S0 S0 nx false 0 := ⟨by simpa using h1, h2, fun _ hp => hp, rfl, rfl⟩
theorem StSt.skip (s : StSt ls q h S0 S nx ch j) (hj : j < ls.length) (hd : stTurns ls q ls[j] = false) (hf : stFails ls q ls[j] = false) : StSt ls q h S0 S nx ch (j + 1) := by
  refine ⟨?_, s.has, s.sub, ?_, ?_⟩
  · rw [s.now, List.take_succ_eq_append_getElem hj, List.map_append, List.drop_eq_getElem_cons hj, List.append_assoc]
    simp [stNew, hd]
  · rw [List.take_succ_eq_append_getElem hj, List.any_append, ← s.ch]; simp [hd]
  · rw [List.take_succ_eq_append_getElem hj, List.any_append, s.good]; simp [hf]
theorem StSt.turn (s : StSt ls q h S0 S nx ch j) (hj : j < ls.length) (hd : stTurns ls q ls[j] = true) (hf : stFails ls q ls[j] = false) (z : LtV) (hz : z.x = { ls[j] with flags := chSet ls[j].flags q.how q.flags, mod := h + 1 }) : StSt ls q h S0 ((z.v, z.x.flags) :: S) (nx.set j z) true (j + 1) := by
  refine ⟨?_, fun w hw => ?_, fun p hp => List.mem_cons_of_mem _ (s.sub p hp), ?_, ?_⟩
  · rw [List.map_set, s.now, hz, List.take_succ_eq_append_getElem hj, List.map_append, List.drop_eq_getElem_cons hj, List.append_assoc, List.set_append_right _ _ (by rw [List.length_map, List.length_take]; omega), List.length_map, List.length_take, show j - min j ls.length = 0 from by omega, List.set_cons_zero]
    simp [stNew, hd]
  · rcases List.mem_or_eq_of_mem_set hw with hw | rfl
    · exact List.mem_cons_of_mem _ (s.has w hw)
    · exact List.mem_cons_self ..
  · rw [List.take_succ_eq_append_getElem hj, List.any_append]; simp [hd]
  · rw [List.take_succ_eq_append_getElem hj, List.any_append, s.good]; simp [hf]
theorem StSt.more (s : StSt ls q h S0 S nx ch j) (p : Value × List (List UInt8)) : StSt ls q h S0 (p :: S) nx ch j :=
  ⟨s.now, fun w hw => List.mem_cons_of_mem _ (s.has w hw), fun p hp => List.mem_cons_of_mem _ (s.sub p hp), s.ch, s.good⟩
theorem doneL_yes (hj : j < ls.length) (hd : stDone ls q ls[j] = true) : doneL ls q (j + 1) = doneL ls q j ++ [ls[j].uid] := by
  unfold doneL
  rw [List.take_succ_eq_append_getElem hj, List.filter_append]; simp [hd]
theorem doneL_no (hj : j < ls.length) (hd : stDone ls q ls[j] = false) : doneL ls q (j + 1) = doneL ls q j := by
  unfold doneL
  rw [List.take_succ_eq_append_getElem hj, List.filter_append]; simp [hd]
theorem heldL_yes (hj : j < ls.length) (hd : stHeld ls q ls[j] = true) : heldL ls q (j + 1) = heldL ls q j ++ [ls[j].uid] := by
  unfold heldL
  rw [List.take_succ_eq_append_getElem hj, List.filter_append]; simp [hd]
theorem heldL_no (hj : j < ls.length) (hd : stHeld ls q ls[j] = false) : heldL ls q (j + 1) = heldL ls q j := by
  unfold heldL
  rw [List.take_succ_eq_append_getElem hj, List.filter_append]; simp [hd]
theorem doneL_len (ls : List Lt) (q : Rq) (j : Nat) : (doneL ls q j).length ≤ ls.length := by
  unfold doneL
  rw [List.length_map]
  exact Nat.le_trans (List.length_filter_le _ _) (by rw [List.length_take]; omega)
theorem heldL_len (ls : List Lt) (q : Rq) (j : Nat) : (heldL ls q j).length ≤ ls.length := by
  unfold heldL
  rw [List.length_map]
  exact Nat.le_trans (List.length_filter_le _ _) (by rw [List.length_take]; omega)
end
theorem chSet_len (l : List (List UInt8)) (how : Int) (by_ : List (List UInt8)) : (chSet l how by_).length ≤ 16 := by
  unfold chSet
  split
  · split
    · exact Nat.zero_le _
    · omega
  · exact Nat.zero_le _
theorem Zoo.repl {W0 W : World} {L : List Th} {a : Th} (h : Zoo W0 W (a :: L)) (i : Nat) (hi : i < L.length) : Zoo W0 W (L.set i a) :=
  Zoo.back i hi (h.sub (List.Sublist.cons_cons _ (List.eraseIdx_sublist _ _)))
theorem Zoo.addFl' {W0 W W' : World} {L : List Th} {S : List (Value × List (List UInt8))} (h : Zoo W0 W L) (i : Nat) (hi : L[i]? = some (flagsT S)) {v : Value} {l : List (List UInt8)} (hb : Below W.heap.size W W') (hr : HoldsSl W.heap.size W' v l) : Zoo W0 W' (L.set i (flagsT ((v, l) :: S))) := by
  obtain ⟨ao, cap, rfl, hr⟩ := hr
  rcases hr with rfl | ⟨g, rfl, hg, hgl, hc, hh⟩
  · obtain ⟨F, h1, hlow, hact⟩ := (h.below hb).act i _ hi
    refine hact _ F W' ⟨h1.1, fun p hp => ?_⟩ (Grows.of_below (Below.refl _ _))
    rcases List.mem_cons.1 hp with rfl | hp
    · exact ⟨ao, cap, rfl, .inl rfl⟩
    · exact h1.2 p hp
  · exact h.addFl i hi hb (HoldsSl.rd (B := 0) ⟨_, cap, rfl, .inr ⟨g, rfl, Nat.zero_le _, hgl, hc, hh⟩⟩) (fun g' hg' => by
      have : g = g' := Option.some.inj (show some g = some g' from hg')
      omega)
end Go.Proofs.YtcnebfmlelcliaaGreat
