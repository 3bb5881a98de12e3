/- An operation turns no mailbox but the one that it names: plain. mail.Find, once more: what it hands back reads alike wherever what is new stays. (written by tools/gen_MnF.py out of MlQ) What the laws of mail ask of states in blocks, while other blocks are made and written. -/
import Derived.Test.YtdobbfjmlnlieaaGreatB20
import Derived.Test.YtdobbfjmlnlieaaGreatB22
import Derived.Test.YtdobbfjmlnlieaaGreatB16
import Derived.Test.YtdobbfjmlnlieaaGreatB24
namespace Go.Proofs.YtdobbfjmlnlieaaGreat
set_option linter.unusedSimpArgs false
open Go.RowKit

/-- the mailbox that a request names (of a copy the one that it goes to) -/
def namedOf (q : Rq) : ByteArray := if q.op = 9 then q.to_ else q.box
def Apart (m m' : Ml) (n : List UInt8) (new : Prop) : Prop := (∀ b ∈ m.boxes, b.name.data.toList ≠ n → b ∈ m'.boxes) ∧ ∀ t ∈ m'.boxes, (∃ b ∈ m.boxes, b.name = t.name) ∨ (t.name.data.toList = n ∧ new)
theorem Apart.same {m m' : Ml} {n : List UInt8} {new : Prop} (e : m'.boxes = m.boxes) : Apart m m' n new := ⟨fun b hb _ => by rw [e]; exact hb, fun t ht => .inl ⟨t, by rw [e] at ht; exact ht, rfl⟩⟩
theorem Apart.set {m : Ml} {n : List UInt8} {new : Prop} {i : Nat} (hi : i < m.boxes.length) (b : Bx) (hb : b.name = m.boxes[i].name) (hn : m.boxes[i].name.data.toList = n) : Apart m (setM m i b) n new := by
  refine ⟨fun x hx hne => ?_, fun t ht => .inl ?_⟩
  · rcases mem_set_in b hi hx with rfl | h
    · exact absurd hn hne
    · exact h
  · rcases mem_set_out ht with h | rfl
    · exact ⟨t, h, rfl⟩
    · exact ⟨m.boxes[i], List.getElem_mem hi, hb.symm⟩
theorem find_in {m : Ml} (h : RightP m) {b : Bx} (hb : b ∈ m.boxes) : findM m b.name = some b := by
  unfold findM
  cases hf : m.boxes.find? (fun x => x.name.toList == b.name.toList) with
  | none => exact absurd (List.find?_eq_none.1 hf b hb) (by simp)
  | some y =>
    have h1 := List.find?_some hf
    have hy := List.mem_of_find?_eq_some hf
    have e := name_eq h1
    obtain ⟨i, hi, rfl⟩ := List.mem_iff_getElem.1 hy
    obtain ⟨j, hj, rfl⟩ := List.mem_iff_getElem.1 hb
    rcases Nat.lt_trichotomy i j with h3 | h3 | h3
    · have := List.pairwise_iff_getElem.1 h.names i j hi hj h3
      unfold bxltB at this
      rw [e, bytes_sto.irr] at this; cases this
    · subst h3; rfl
    · have := List.pairwise_iff_getElem.1 h.names j i hj hi h3
      unfold bxltB at this
      rw [e, bytes_sto.irr] at this; cases this
end Go.Proofs.YtdobbfjmlnlieaaGreat
namespace Go.Proofs.YtdobbfjmlnlieaaGreat
set_option linter.unusedSimpArgs false
open Go.RowKit
attribute [local go_sem ↓] Go.wp_at_zero Go.wp_at_succ

def FindS (W : World) (m : Ml) (name : ByteArray) (e : Ending) (w' : World) : Prop := ∃ z : BxV, e = .returned (.tuple #[bxAgg z, .bool (findM m name).isSome]) ∧ Hid (z.b = (findM m name).getD bx0.b) ∧ Hid (Stay (fun k => W.heap.size ≤ k) w' fun x => LtsIn x z.v z.rows) ∧ Hid (Below W.heap.size W w')
set_option maxRecDepth 100000 in
set_option maxHeartbeats 8000000 in
theorem findS_any (v : Value) (m : Ml) (W : World) (hin : MlIn W v m) (hs : Sized1 m) (name : ByteArray) :
    Calls Tryz.prog 19 #[v, .string name] W (FindS W m name) := by
  obtain ⟨vb, vh, vs, bs, rfl, hbs, hib, hih, his⟩ := hin
  have hib0 := Lib.hid (fun (W' : World) (h : Below W.heap.size W W') => hib.below h)
  have hlb : bs.length ≤ 1000 := by have := hs.boxes; rw [← hbs, List.length_map] at this; exact this
  obtain ⟨ab, cb, rfl, -⟩ := hib.1
  obtain ⟨ah, ch, rfl, -⟩ := hih
  obtain ⟨as_, cs, rfl, -⟩ := his
  have hz := ((Zoo.nil W).newBox [.slice ab bs.length cb, .int .u64 m.nv, .slice ah m.homes.length ch, .slice as_ m.seats.length cs, .int .u64 m.ns, .int .u64 m.sweeps].toArray 27).newBox (bxCells bx0).toArray 48
  have hs1 : (W.alloc (.cells [.slice ab bs.length cb, .int .u64 m.nv, .slice ah m.homes.length ch, .slice as_ m.seats.length cs, .int .u64 m.ns, .int .u64 m.sweeps].toArray 27)).heap.size = W.heap.size + 1 := by simp
  rw [hs1] at hz
  have hat := Lib.hid (at_any ab ah as_ cb m.homes.length ch m.seats.length cs m.nv m.ns m.sweeps bs name (hib0.out _ hz.bel).1 (by omega))
  unfold bxCells bx0 BxV.v at hz hat
  dsimp only [List.length_nil] at hz hat
  replace hz := Lib.hid hz
  replace hbs := Lib.hid hbs
  replace hs := Lib.hid hs
  clear hib hs1
  unfold mlVal
  go_enter Tryz.func19, Tryz.ntmps19
  go_wp2_with fail
  refine hat.out.mono ?_
  rintro e w2 ⟨rfl, hb2⟩
  have hz2 := hz.out.below hb2.out
  have hfm : findM m name = (bs.find? (fun x => x.name.toList == name.toList)).map BxV.b := by
    unfold findM
    rw [← hbs.out, List.find?_map]; rfl
  unfold atB
  rcases findIdx_find (fun x : BxV => x.name.toList == name.toList) bs with ⟨e1, e2⟩ | ⟨i, hi, e1, e2⟩
  · rw [e1]
    rw [e2] at hfm
    have hfm2 : Hid (findM m name = none) := Lib.hid hfm
    obtain ⟨hb, -⟩ := hz2.box 0 rfl
    have d0 : w2.cell? ⟨W.heap.size + 1, 0, none⟩ = some (.string ⟨#[]⟩) := box_cell hb 0
    have d1 : w2.cell? ⟨W.heap.size + 1, 1, none⟩ = some (.int .u64 0) := box_cell hb 1
    have d2 : w2.cell? ⟨W.heap.size + 1, 2, none⟩ = some (.int .u64 0) := box_cell hb 2
    have d3 : w2.cell? ⟨W.heap.size + 1, 3, none⟩ = some (.int .u64 0) := box_cell hb 3
    have d4 : w2.cell? ⟨W.heap.size + 1, 4, none⟩ = some (.slice none 0 0) := box_cell hb 4
    have f0 := box_free hb
    have hz5 := ((((hz2.setBox 0 rfl 0 (.string ⟨#[]⟩)).setBox 0 rfl 1 (.int .u64 0)).setBox 0 rfl 2 (.int .u64 0)).setBox 0 rfl 3 (.int .u64 0)).setBox 0 rfl 4 (.slice none 0 0)
    obtain ⟨hbz, -⟩ := hz5.box 0 rfl
    replace hbz := Lib.hid hbz
    have hbel := Lib.hid hz5.bel
    clear hz5 hz2 hb hfm e1 e2 hat hb2
    go_wp2_with fail
    refine bodyPost_ret (results_cell_tmp_row rfl _ _ _ (bxCells bx0) rfl hbz.out Tryz.isAgg48 Tryz.sizeOf48) rfl ?_
    exact ⟨bx0, by rw [hfm2.out]; rfl, Lib.hid (by rw [hfm2.out]; rfl), Lib.hid (fun w' _ => ⟨(RT.Own.nil ltT w').rd, fun z hz => by cases hz⟩), hbel⟩
  · rw [e1]
    rw [e2] at hfm
    have hfm2 : Hid (findM m name = some bs[i].b) := Lib.hid hfm
    obtain ⟨hbm, -⟩ := hz2.box 1 rfl
    have m0 : w2.cell? ⟨W.heap.size, 0, none⟩ = some (.slice ab bs.length cb) := box_cell hbm 0
    have hib2 := hib0.out _ hz2.bel
    obtain ⟨b, o, cap, hv, -, hblt, hcells⟩ := bxT.rd_cells hib2.1 hi
    injection hv with hv1 hv2 hv3
    subst hv1
    have hcl := Lib.hid (cloneBox_any bs[i] w2 (hib2.2 _ (List.getElem_mem hi)) (by have := hs.out.letters _ (by rw [← hbs.out]; exact List.mem_map_of_mem (List.getElem_mem hi)); have h : bs[i].b.letters.length = bs[i].rows.length := List.length_map ..; omega) (fun z hz => by have := hs.out.flags bs[i].b (by rw [← hbs.out]; exact List.mem_map_of_mem (List.getElem_mem hi)) z.x (List.mem_map_of_mem hz); omega))
    generalize bs[i] = x at *
    have r0 := hcells 0 _ rfl
    have r1 := hcells 1 _ rfl
    have r2 := hcells 2 _ rfl
    have r3 := hcells 3 _ rfl
    have r4 := hcells 4 _ rfl
    replace r0 : w2.cell? ⟨b, o + i * 5, none⟩ = some (.string x.name) := r0
    replace r1 : w2.cell? ⟨b, o + i * 5 + 1, none⟩ = some (.int .u64 x.validity) := r1
    replace r2 : w2.cell? ⟨b, o + i * 5 + 2, none⟩ = some (.int .u64 x.next) := r2
    replace r3 : w2.cell? ⟨b, o + i * 5 + 3, none⟩ = some (.int .u64 x.high) := r3
    replace r4 : w2.cell? ⟨b, o + i * 5 + 4, none⟩ = some (.slice x.a x.rows.length x.c) := r4
    replace hcl : Hid (Calls Tryz.prog 57 #[.agg #[.string x.name, .int .u64 x.validity, .int .u64 x.next, .int .u64 x.high, .slice x.a x.rows.length x.c]] w2 (CloneBoxRet w2 x)) := hcl
    have hi0 : (0 : Int) ≤ (i : Int) := by omega
    have hil2 : (i : Int) < (bs.length : Int) := by omega
    replace hz2 := Lib.hid hz2
    clear e1 e2 hfm hat hb2 hcells hbm hib2 hv2 hv3
    go_wp2_with fail
    refine hcl.out.mono ?_
    rintro e w3 ⟨z, S, he, hzb, hz3⟩
    unfold bxAgg bxCells BxV.v at he
    subst he
    have hz4 := hz2.out.join hz3.out
    obtain ⟨hb, -⟩ := hz4.box 2 rfl
    have d0 : w3.cell? ⟨W.heap.size + 1, 0, none⟩ = some (.string ⟨#[]⟩) := box_cell hb 0
    have d1 : w3.cell? ⟨W.heap.size + 1, 1, none⟩ = some (.int .u64 0) := box_cell hb 1
    have d2 : w3.cell? ⟨W.heap.size + 1, 2, none⟩ = some (.int .u64 0) := box_cell hb 2
    have d3 : w3.cell? ⟨W.heap.size + 1, 3, none⟩ = some (.int .u64 0) := box_cell hb 3
    have d4 : w3.cell? ⟨W.heap.size + 1, 4, none⟩ = some (.slice none 0 0) := box_cell hb 4
    have f0 := box_free hb
    have hz5 := ((((hz4.setBox 2 rfl 0 (.string z.name)).setBox 2 rfl 1 (.int .u64 z.validity)).setBox 2 rfl 2 (.int .u64 z.next)).setBox 2 rfl 3 (.int .u64 z.high)).setBox 2 rfl 4 (.slice z.a z.rows.length z.c)
    obtain ⟨hbz, -⟩ := hz5.box 2 rfl
    have hlt := Lib.hid (hz5.stay (P := fun x => LtsIn x z.v z.rows) (fun _ _ => rfl) (fun W0 w' h => ⟨(h.own 0 rfl).rd, h.ltsOk 1 rfl hzb.out.2⟩) (fun a b h hb => h.below hb))
    replace hbz := Lib.hid hbz
    have hbel := Lib.hid hz5.bel
    have hzb1 := Lib.hid hzb.out.1
    clear hz5 hz4 hb hcl hz3 hz2 hzb r0 r1 r2 r3 r4
    go_wp2_with fail
    refine bodyPost_ret (results_cell_tmp_row rfl _ _ _ (bxCells z) rfl hbz.out Tryz.isAgg48 Tryz.sizeOf48) rfl ?_
    exact ⟨z, by rw [hfm2.out]; rfl, Lib.hid (by rw [hfm2.out]; exact hzb1.out), hlt, hbel⟩
end Go.Proofs.YtdobbfjmlnlieaaGreat
namespace Go.Proofs.YtdobbfjmlnlieaaGreat
set_option linter.unusedSimpArgs false
open Go.RowKit

def okL (L : List Nat) : Nat → Prop := fun k => ∀ b ∈ L, k ≠ b
section
variable {w : World} {P : World → Prop} {L : List Nat}
theorem Stay.okL {n : Nat} (h : Stay (fun k => n ≤ k) w P) (hL : ∀ b ∈ L, b < n) : Stay (okL L) w P := h.weak (fun k _ hk b hb => by have h1 := hL b hb; have h2 : n ≤ k := hk; omega)
theorem Stay.setL (h : Stay (Go.Proofs.YtdobbfjmlnlieaaGreat.okL L) w P) {B : Nat} (hB : B ∈ L) (C : List Value) : Stay (Go.Proofs.YtdobbfjmlnlieaaGreat.okL L) (w.setCells B 0 C) P := h.sets B C (fun _ hk _ => hk B hB)
theorem Stay.one {MB : Nat} (h : Stay (fun k => k ≠ MB) w P) : Stay (Go.Proofs.YtdobbfjmlnlieaaGreat.okL [MB]) w P := h.weak (fun _ _ hk b hb => by rw [List.mem_singleton.1 hb]; exact hk)
end
theorem ltL_below {L : List Nat} {w w' : World} (h : ∀ b ∈ L, b < w.heap.size) (hb : w.heap.size ≤ w'.heap.size) : ∀ b ∈ L, b < w'.heap.size := fun b hm => Nat.lt_of_lt_of_le (h b hm) hb
theorem MlIn.nb {W : World} {m : Ml} {ab ah as_ : Option Addr} {nb cb nv nh ch ns cs nse sw : Nat} (h : MlIn W (.agg #[.slice ab nb cb, .int .u64 nv, .slice ah nh ch, .slice as_ ns cs, .int .u64 nse, .int .u64 sw]) m) : nb = m.boxes.length := by
  obtain ⟨vb, vh, vs, bs, e, hbs, hib, -, -⟩ := h
  obtain ⟨ab2, cb2, rfl, -⟩ := hib.1
  unfold mlVal at e
  have e1 := congrArg (fun v => match v with | .agg a => a[0]? | _ => none) e
  simp at e1
  rw [e1.2.1, ← hbs, List.length_map]
/-- two states, each in its block -/
def Ap7 (W : World) (MB TB : Nat) (m1 m2 : Ml) (wx : World) : Prop := ∃ C D : List Value, Zoo W wx [boxT TB D.toArray 27, boxT MB C.toArray 27] ∧ Stay (okL [MB, TB]) wx (fun x => MlIn x (.agg C.toArray) m1) ∧ Stay (okL [MB, TB]) wx (fun x => MlIn x (.agg D.toArray) m2)
theorem Ap7.below {W : World} {MB TB : Nat} {m1 m2 : Ml} {w w' : World} (h : Ap7 W MB TB m1 m2 w) (hb : Below w.heap.size w w') : Ap7 W MB TB m1 m2 w' := by
  obtain ⟨C, D, hz, hc, hd⟩ := h
  exact ⟨C, D, hz.below hb, hc.below hb, hd.below hb⟩
def zeroBx : List Value := [.string ⟨#[]⟩, .int .u64 0, .int .u64 0, .int .u64 0, .slice none 0 0]
/-- a mailbox that was found, in a block -/
def Fd (W : World) (m : Ml) (nm : ByteArray) (FB : Nat) (z : BxV) (wx : World) : Prop := z.b = (findM m nm).getD bx0.b ∧ wx.heap[FB]? = some (.cells (bxCells z).toArray 48 (0, 0)) ∧ LtsIn wx z.v z.rows ∧ Below W.heap.size W wx
end Go.Proofs.YtdobbfjmlnlieaaGreat
