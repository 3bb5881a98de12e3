/- What is not great is small enough: plain. (written by tools/gen_Vt.py out of MmP) hash, begun: walked. begun: walked. A state in a block, as the laws of mail hold it; what begun hands back is right. mail.Find, once more: what it hands back reads alike wherever what is new stays. (written by tools/gen_MnF.py out of MlQ) SameLetter: walked. An operation turns no mailbox but the one that it names: plain. How a state comes of another one: plain. (written by tools/gen_Vt.py out of MoL) Where a row stands, in both: walked. Rows of one's own; views alike; rows cloned: walked. Told of the program: walked. The greatest Uid, in both: walked. Sync as plain laws: what is told once is not told again (ViewQuiet: sync_still); a view that is told has just the letters (ViewFollows: sync_all, sync_follows); who counts by the replies (ViewCounts: run_tell). How INBOX comes of what it was behind operations; what ViewFollows and ViewQuiet ask of it: plain. A region that draws its order, where one operation of the head turns the condition. -/
import Derived.Test.YtcnebfmlelcliaaB07
import Derived.Test.YtcnebfmlelcliaaB05
import Derived.Test.YtcnebfmlelcliaaB04
import Derived.Test.YtcnebfmlelcliaaB03
import Derived.Laws.EntriesVeiled
import Derived.Laws.StructEq
import Derived.Test.YtcnebfmlelcliaaB01
namespace Go.Proofs.Ytcnebfmlelcliaa
set_option linter.unusedSimpArgs false
open Go.RowKit

theorem le_sum_mem {α : Type} (f : α → Nat) {x : α} : ∀ {l : List α}, x ∈ l → f x ≤ (l.map f).sum
  | y :: r, h => by
    simp only [List.map_cons, List.sum_cons]
    rcases List.mem_cons.1 h with rfl | h
    · omega
    · have := le_sum_mem f h; omega
theorem fewN_lt {n : Nat} (h : fewN n < 1048576) : n = fewN n := by unfold fewN at h ⊢; omega
theorem textsN_sized {l : List (List UInt8)} (h : textsN l < 9000) : l.length ≤ 200 ∧ Sized l := by
  unfold textsN at h
  split at h
  · omega
  · refine ⟨by omega, fun x hx => ?_⟩
    have h1 := le_sum_mem textN hx
    have h2 : textN x < 9000 := by omega
    unfold textN at h2
    have h3 := fewN_lt (n := x.length) (by omega)
    have h4 : (mkB x).size = x.length := by simp [mkB, ByteArray.size]
    rw [h4]
    unfold maxLen
    omega
theorem light_parts {m : Ml} {l : List Rq} (h : lightB m l = true) : m.boxes.length ≤ 50 ∧ m.seats.length ≤ 100 ∧ m.homes.length ≤ 50 ∧ l.length ≤ 200 ∧ (∀ b ∈ m.boxes, b.letters.length ≤ 500) ∧ (∀ q ∈ l, q.uids.length ≤ 1000) ∧ (∀ b ∈ m.boxes, boxN b < 9000) ∧ (∀ q ∈ l, reqN q < 9000) := by
  unfold lightB at h
  simp only [Bool.and_eq_true, decide_eq_true_eq, List.all_eq_true] at h
  refine ⟨h.1.1.1.1.1.1, h.1.1.1.1.1.2, h.1.1.1.1.2, h.1.1.1.2, h.1.1.2, h.1.2, fun b hb => ?_, fun q hq => ?_⟩
  · have := le_sum_mem boxN hb; have := h.2; omega
  · have := le_sum_mem reqN hq; have := h.2; omega
theorem light_ask {m : Ml} {l : List Rq} (h : lightB m l = true) : AskSz m := by
  have hp := light_parts h
  have hl : ∀ b ∈ m.boxes, ∀ x ∈ b.letters, textsN x.flags < 9000 := by
    intro b hb x hx
    have h1 := hp.2.2.2.2.2.2.1 b hb
    have h2 := le_sum_mem letN hx
    unfold boxN at h1
    have h3 : letN x < 9000 := by omega
    unfold letN at h3
    omega
  refine ⟨⟨by omega, by omega, by omega, fun b hb => ?_, fun b hb x hx => ?_⟩, fun b hb => ?_, fun b hb x hx => (textsN_sized (hl b hb x hx)).2⟩
  · have := hp.2.2.2.2.1 b hb; omega
  · have := (textsN_sized (hl b hb x hx)).1; omega
  · have h1 := hp.2.2.2.2.2.2.1 b hb
    unfold boxN at h1
    have h3 := fewN_lt (n := b.name.size) (by omega)
    unfold maxLen
    omega
theorem light_rq {m : Ml} {l : List Rq} (h : lightB m l = true) : ∀ q ∈ l, RqOk q := by
  have hp := light_parts h
  intro q hq
  have h1 := hp.2.2.2.2.2.2.2 q hq
  have h2 := hp.2.2.2.2.2.1 q hq
  unfold reqN at h1
  have h3 := textsN_sized (l := q.flags) (by omega)
  have h4 := fewN_lt (n := q.box.size) (by omega)
  exact ⟨⟨by omega, h3.2, by omega⟩, by unfold maxLen; omega⟩
end Go.Proofs.Ytcnebfmlelcliaa
namespace Go.Proofs.Ytcnebfmlelcliaa
set_option linter.unusedSimpArgs false
open Go.RowKit
attribute [local go_sem ↓] Go.wp_at_zero Go.wp_at_succ

theorem MlIn.stay {W : World} {v : Value} {m : Ml} (h : MlIn W v m) : Stay (fun _ => True) W fun x => MlIn x v m := by
  intro w' hw
  have h2 : MlIn { W with heap := w'.heap } v m := h.below ⟨rfl, rfl, rfl, by
    rcases Nat.eq_zero_or_pos W.heap.size with h0 | h0
    · rw [h0]; exact Nat.zero_le _
    · have e := Array.getElem?_eq_getElem (show W.heap.size - 1 < W.heap.size by omega)
      have := (Array.getElem?_eq_some_iff.1 ((hw (W.heap.size - 1) trivial (by omega)).trans e)).1
      show W.heap.size ≤ w'.heap.size
      omega, fun k hk => hw k trivial hk⟩
  exact h2
theorem new_block {w : World} {B : Nat} (h : w.heap[B]? = some (.cells (bxT.enc newBx).toArray 28 (0, 0))) : MlIn w (mlVal (.slice (some ⟨B, 0, none⟩) 1 1) 2 (.slice none 0 0) (.slice none 0 0) 1 0) newM := by
  have hl : B < w.heap.size := (Array.getElem?_eq_some_iff.1 h).1
  have e : ({ w with heap := w.heap.extract 0 B } : World).heap.size = B := by simp; omega
  have h1 := new_in { w with heap := w.heap.extract 0 B }
  rw [e] at h1
  have e2 : (({ w with heap := w.heap.extract 0 B } : World).alloc (.cells (bxT.enc newBx).toArray 28)).heap.size = B + 1 := by simp; omega
  refine h1.below ⟨rfl, rfl, rfl, by rw [e2]; omega, fun k hk => ?_⟩
  rw [e2] at hk
  rcases Nat.lt_or_ge k B with hk2 | hk2
  · rw [((Below.refl B ({ w with heap := w.heap.extract 0 B } : World)).alloc (by rw [e]; omega) _).block k hk2]
    show w.heap[k]? = (w.heap.extract 0 B)[k]?
    rw [Array.getElem?_extract]
    simp only [Nat.zero_add]
    rw [if_pos (by omega)]
  · obtain rfl : k = B := by omega
    rw [h]
    have := heap_alloc_new ({ w with heap := w.heap.extract 0 k } : World) (.cells (bxT.enc newBx).toArray 28)
    rw [e] at this
    exact this.symm
/-- a state in new memory -/
def MlNew (W : World) (m : Ml) (e : Ending) (w' : World) : Prop := ∃ v, e = .returned v ∧ Hid (Stay (fun k => W.heap.size ≤ k) w' fun x => MlIn x v m) ∧ Hid (Below W.heap.size W w')
set_option maxRecDepth 100000 in
set_option maxHeartbeats 4000000 in
theorem newS_any (W : World) : Calls Try.prog 38 #[] W (MlNew W newM) := by
  have hz := ((Zoo.nil W).newBox #[.slice (some ⟨W.heap.size + 1, 0, none⟩) 1 1, .int .u64 2, .slice none 0 0, .slice none 0 0, .int .u64 1, .int .u64 0] 47).newBox #[.string ⟨#[73, 78, 66, 79, 88]⟩, .int .u64 1, .int .u64 1, .int .u64 1, .slice none 0 0] 28
  obtain ⟨hb, -⟩ := hz.box 1 rfl
  obtain ⟨hb0, -⟩ := hz.box 0 rfl
  rw [show (W.alloc (.cells #[.slice (some ⟨W.heap.size + 1, 0, none⟩) 1 1, .int .u64 2, .slice none 0 0, .slice none 0 0, .int .u64 1, .int .u64 0] 47)).heap.size = W.heap.size + 1 from by simp] at hb0
  have h1 : Hid (Stay (fun k => W.heap.size ≤ k) _ fun x => MlIn x (mlVal (.slice (some ⟨W.heap.size + 1, 0, none⟩) 1 1) 2 (.slice none 0 0) (.slice none 0 0) 1 0) newM) := Lib.hid (fun w2 h2 => new_block ((h2 (W.heap.size + 1) (by omega) (Array.getElem?_eq_some_iff.1 hb0).1).trans hb0))
  have h2 := Lib.hid hz.bel
  replace hb := Lib.hid hb
  clear hz hb0
  go_enter Try.func38, Try.ntmps38
  go_wp2_with fail
  refine bodyPost_ret (results_cell_row rfl _ _ _ 47 _ (0, 0) _ rfl hb.out Try.underlying47 rfl rfl) rfl ?_
  exact ⟨_, rfl, h1, h2⟩
end Go.Proofs.Ytcnebfmlelcliaa
namespace Go.Proofs.Ytcnebfmlelcliaa
set_option linter.unusedSimpArgs false
open Go.RowKit
attribute [local go_sem ↓] Go.wp_at_zero Go.wp_at_succ

theorem MlIn.out_ {W : World} {v : Value} {m : Ml} (h : MlIn W v m) : ∃ ab cb nb ah ch as_ cs, v = .agg #[.slice ab nb cb, .int .u64 m.nv, .slice ah m.homes.length ch, .slice as_ m.seats.length cs, .int .u64 m.ns, .int .u64 m.sweeps] := by
  obtain ⟨vb, vh, vs, bs, rfl, -, hib, hih, his⟩ := h
  obtain ⟨ab, cb, rfl, -⟩ := hib.1
  obtain ⟨ah, ch, rfl, -⟩ := hih
  obtain ⟨as_, cs, rfl, -⟩ := his
  exact ⟨_, _, _, _, _, _, _, rfl⟩
/-- a state to begin with -/
def BegunRet (W : World) (m : Ml) (v : Value) (e : Ending) (w' : World) : Prop := ∃ v', e = .returned v' ∧ Hid ((RightP m ∧ v' = v) ∨ (¬ RightP m ∧ Stay (fun k => W.heap.size ≤ k) w' fun x => MlIn x v' newM)) ∧ Hid (Below W.heap.size W w')
end Go.Proofs.Ytcnebfmlelcliaa
namespace Go.Proofs.Ytcnebfmlelcliaa
set_option linter.unusedSimpArgs false
open Go.RowKit

theorem right_new : RightP newM where
  lb := by decide
  nv := by show (2 : Nat) ≤ 4294967296; omega
  ns1 := Nat.le_refl _
  ns2 := by show (1 : Nat) ≤ 4611686018427387904; omega
  sw := Nat.zero_le _
  ls := Nat.zero_le _
  boxes := fun b hb => by
    obtain rfl := List.mem_singleton.1 hb
    exact ⟨by kernel_rfl, by kernel_rfl, by decide, by decide, by decide, by show (1 : Nat) ≤ 4294967296; omega, by decide, by show (1 : Nat) ≤ 9223372036854775807; omega, by decide, (fun x hx => by cases hx), List.Pairwise.nil⟩
  names := List.pairwise_singleton _ _
  vals := List.pairwise_singleton _ _
  inbox := ⟨newBx.b, List.mem_singleton.2 rfl, by kernel_rfl⟩
  seated := ⟨(fun h hh => by cases hh), List.Pairwise.nil, (fun h hh => by cases hh), List.Pairwise.nil, List.Pairwise.nil⟩
theorem BegunRet.right {W w' : World} {m : Ml} {v : Value} {e : Ending} {MB : Nat} (h : BegunRet W m v e w') (hs : Stay (fun k => k ≠ MB) W fun x => MlIn x v m) (hM : MB < W.heap.size) : ∃ (C : List Value) (m0 : Ml), e = .returned (.agg C.toArray) ∧ RightP m0 ∧ Stay (fun k => k ≠ MB) w' (fun x => MlIn x (.agg C.toArray) m0) ∧ Below W.heap.size W w' := by
  obtain ⟨v', rfl, h1, hb⟩ := h
  have key : ∃ m0, RightP m0 ∧ Stay (fun k => k ≠ MB) w' (fun x => MlIn x v' m0) := by
    rcases h1.out with ⟨hr, rfl⟩ | ⟨-, hn⟩
    · exact ⟨m, hr, hs.below hb.out⟩
    · exact ⟨newM, right_new, hn.weak (fun k _ hk => by have h1 : W.heap.size ≤ k := hk; omega)⟩
  obtain ⟨m0, hr, hst⟩ := key
  obtain ⟨ab, cb, nb, ah, ch, as_, cs, rfl⟩ := hst.now.out_
  exact ⟨[.slice ab nb cb, .int .u64 m0.nv, .slice ah m0.homes.length ch, .slice as_ m0.seats.length cs, .int .u64 m0.ns, .int .u64 m0.sweeps], m0, rfl, hr, hst, hb.out⟩
end Go.Proofs.Ytcnebfmlelcliaa
namespace Go.Proofs.Ytcnebfmlelcliaa
set_option linter.unusedSimpArgs false
open Go.RowKit
attribute [local go_sem ↓] Go.wp_at_zero Go.wp_at_succ

def FindS (W : World) (m : Ml) (name : ByteArray) (e : Ending) (w' : World) : Prop := ∃ z : BxV, e = .returned (.tuple #[bxAgg z, .bool (findM m name).isSome]) ∧ Hid (z.b = (findM m name).getD bx0.b) ∧ Hid (Stay (fun k => W.heap.size ≤ k) w' fun x => LtsIn x z.v z.rows) ∧ Hid (Below W.heap.size W w')
set_option maxRecDepth 100000 in
set_option maxHeartbeats 8000000 in
theorem findS_any (v : Value) (m : Ml) (W : World) (hin : MlIn W v m) (hs : Sized1 m) (name : ByteArray) :
    Calls Try.prog 39 #[v, .string name] W (FindS W m name) := by
  obtain ⟨vb, vh, vs, bs, rfl, hbs, hib, hih, his⟩ := hin
  have hib0 := Lib.hid (fun (W' : World) (h : Below W.heap.size W W') => hib.below h)
  have hlb : bs.length ≤ 1000 := by have := hs.boxes; rw [← hbs, List.length_map] at this; exact this
  obtain ⟨ab, cb, rfl, -⟩ := hib.1
  obtain ⟨ah, ch, rfl, -⟩ := hih
  obtain ⟨as_, cs, rfl, -⟩ := his
  have hz := ((Zoo.nil W).newBox [.slice ab bs.length cb, .int .u64 m.nv, .slice ah m.homes.length ch, .slice as_ m.seats.length cs, .int .u64 m.ns, .int .u64 m.sweeps].toArray 47).newBox (bxCells bx0).toArray 28
  have hs1 : (W.alloc (.cells [.slice ab bs.length cb, .int .u64 m.nv, .slice ah m.homes.length ch, .slice as_ m.seats.length cs, .int .u64 m.ns, .int .u64 m.sweeps].toArray 47)).heap.size = W.heap.size + 1 := by simp
  rw [hs1] at hz
  have hat := Lib.hid (at_any ab ah as_ cb m.homes.length ch m.seats.length cs m.nv m.ns m.sweeps bs name (hib0.out _ hz.bel).1 (by omega))
  unfold bxCells bx0 BxV.v at hz hat
  dsimp only [List.length_nil] at hz hat
  replace hz := Lib.hid hz
  replace hbs := Lib.hid hbs
  replace hs := Lib.hid hs
  clear hib hs1
  unfold mlVal
  go_enter Try.func39, Try.ntmps39
  go_wp2_with fail
  refine hat.out.mono ?_
  rintro e w2 ⟨rfl, hb2⟩
  have hz2 := hz.out.below hb2.out
  have hfm : findM m name = (bs.find? (fun x => x.name.toList == name.toList)).map BxV.b := by
    unfold findM
    rw [← hbs.out, List.find?_map]; rfl
  unfold atB
  rcases findIdx_find (fun x : BxV => x.name.toList == name.toList) bs with ⟨e1, e2⟩ | ⟨i, hi, e1, e2⟩
  · rw [e1]
    rw [e2] at hfm
    have hfm2 : Hid (findM m name = none) := Lib.hid hfm
    obtain ⟨hb, -⟩ := hz2.box 0 rfl
    have d0 : w2.cell? ⟨W.heap.size + 1, 0, none⟩ = some (.string ⟨#[]⟩) := box_cell hb 0
    have d1 : w2.cell? ⟨W.heap.size + 1, 1, none⟩ = some (.int .u64 0) := box_cell hb 1
    have d2 : w2.cell? ⟨W.heap.size + 1, 2, none⟩ = some (.int .u64 0) := box_cell hb 2
    have d3 : w2.cell? ⟨W.heap.size + 1, 3, none⟩ = some (.int .u64 0) := box_cell hb 3
    have d4 : w2.cell? ⟨W.heap.size + 1, 4, none⟩ = some (.slice none 0 0) := box_cell hb 4
    have f0 := box_free hb
    have hz5 := ((((hz2.setBox 0 rfl 0 (.string ⟨#[]⟩)).setBox 0 rfl 1 (.int .u64 0)).setBox 0 rfl 2 (.int .u64 0)).setBox 0 rfl 3 (.int .u64 0)).setBox 0 rfl 4 (.slice none 0 0)
    obtain ⟨hbz, -⟩ := hz5.box 0 rfl
    replace hbz := Lib.hid hbz
    have hbel := Lib.hid hz5.bel
    clear hz5 hz2 hb hfm e1 e2 hat hb2
    go_wp2_with fail
    refine bodyPost_ret (results_cell_tmp_row rfl _ _ _ (bxCells bx0) rfl hbz.out Try.isAgg28 Try.sizeOf28) rfl ?_
    exact ⟨bx0, by rw [hfm2.out]; rfl, Lib.hid (by rw [hfm2.out]; rfl), Lib.hid (fun w' _ => ⟨(RT.Own.nil ltT w').rd, fun z hz => by cases hz⟩), hbel⟩
  · rw [e1]
    rw [e2] at hfm
    have hfm2 : Hid (findM m name = some bs[i].b) := Lib.hid hfm
    obtain ⟨hbm, -⟩ := hz2.box 1 rfl
    have m0 : w2.cell? ⟨W.heap.size, 0, none⟩ = some (.slice ab bs.length cb) := box_cell hbm 0
    have hib2 := hib0.out _ hz2.bel
    obtain ⟨b, o, cap, hv, -, hblt, hcells⟩ := bxT.rd_cells hib2.1 hi
    injection hv with hv1 hv2 hv3
    subst hv1
    have hcl := Lib.hid (cloneBox_any bs[i] w2 (hib2.2 _ (List.getElem_mem hi)) (by have := hs.out.letters _ (by rw [← hbs.out]; exact List.mem_map_of_mem (List.getElem_mem hi)); have h : bs[i].b.letters.length = bs[i].rows.length := List.length_map ..; omega) (fun z hz => by have := hs.out.flags bs[i].b (by rw [← hbs.out]; exact List.mem_map_of_mem (List.getElem_mem hi)) z.x (List.mem_map_of_mem hz); omega))
    generalize bs[i] = x at *
    have r0 := hcells 0 _ rfl
    have r1 := hcells 1 _ rfl
    have r2 := hcells 2 _ rfl
    have r3 := hcells 3 _ rfl
    have r4 := hcells 4 _ rfl
    replace r0 : w2.cell? ⟨b, o + i * 5, none⟩ = some (.string x.name) := r0
    replace r1 : w2.cell? ⟨b, o + i * 5 + 1, none⟩ = some (.int .u64 x.validity) := r1
    replace r2 : w2.cell? ⟨b, o + i * 5 + 2, none⟩ = some (.int .u64 x.next) := r2
    replace r3 : w2.cell? ⟨b, o + i * 5 + 3, none⟩ = some (.int .u64 x.high) := r3
    replace r4 : w2.cell? ⟨b, o + i * 5 + 4, none⟩ = some (.slice x.a x.rows.length x.c) := r4
    replace hcl : Hid (Calls Try.prog 53 #[.agg #[.string x.name, .int .u64 x.validity, .int .u64 x.next, .int .u64 x.high, .slice x.a x.rows.length x.c]] w2 (CloneBoxRet w2 x)) := hcl
    have hi0 : (0 : Int) ≤ (i : Int) := by omega
    have hil2 : (i : Int) < (bs.length : Int) := by omega
    replace hz2 := Lib.hid hz2
    clear e1 e2 hfm hat hb2 hcells hbm hib2 hv2 hv3
    go_wp2_with fail
    refine hcl.out.mono ?_
    rintro e w3 ⟨z, S, he, hzb, hz3⟩
    unfold bxAgg bxCells BxV.v at he
    subst he
    have hz4 := hz2.out.join hz3.out
    obtain ⟨hb, -⟩ := hz4.box 2 rfl
    have d0 : w3.cell? ⟨W.heap.size + 1, 0, none⟩ = some (.string ⟨#[]⟩) := box_cell hb 0
    have d1 : w3.cell? ⟨W.heap.size + 1, 1, none⟩ = some (.int .u64 0) := box_cell hb 1
    have d2 : w3.cell? ⟨W.heap.size + 1, 2, none⟩ = some (.int .u64 0) := box_cell hb 2
    have d3 : w3.cell? ⟨W.heap.size + 1, 3, none⟩ = some (.int .u64 0) := box_cell hb 3
    have d4 : w3.cell? ⟨W.heap.size + 1, 4, none⟩ = some (.slice none 0 0) := box_cell hb 4
    have f0 := box_free hb
    have hz5 := ((((hz4.setBox 2 rfl 0 (.string z.name)).setBox 2 rfl 1 (.int .u64 z.validity)).setBox 2 rfl 2 (.int .u64 z.next)).setBox 2 rfl 3 (.int .u64 z.high)).setBox 2 rfl 4 (.slice z.a z.rows.length z.c)
    obtain ⟨hbz, -⟩ := hz5.box 2 rfl
    have hlt := Lib.hid (hz5.stay (P := fun x => LtsIn x z.v z.rows) (fun _ _ => rfl) (fun W0 w' h => ⟨(h.own 0 rfl).rd, h.ltsOk 1 rfl hzb.out.2⟩) (fun a b h hb => h.below hb))
    replace hbz := Lib.hid hbz
    have hbel := Lib.hid hz5.bel
    have hzb1 := Lib.hid hzb.out.1
    clear hz5 hz4 hb hcl hz3 hz2 hzb r0 r1 r2 r3 r4
    go_wp2_with fail
    refine bodyPost_ret (results_cell_tmp_row rfl _ _ _ (bxCells z) rfl hbz.out Try.isAgg28 Try.sizeOf28) rfl ?_
    exact ⟨z, by rw [hfm2.out]; rfl, Lib.hid (by rw [hfm2.out]; exact hzb1.out), hlt, hbel⟩
end Go.Proofs.Ytcnebfmlelcliaa
namespace Go.Proofs.Ytcnebfmlelcliaa
set_option linter.unusedSimpArgs false
open Go.RowKit
attribute [local go_sem ↓] Go.wp_at_zero Go.wp_at_succ

theorem toList_inj_ {u v : ByteArray} (h : u.toList = v.toList) : u = v := by
  rw [ByteArray.toList_eq, ByteArray.toList_eq] at h
  obtain ⟨⟨a⟩⟩ := u
  obtain ⟨⟨b⟩⟩ := v
  simp only at h
  rw [h]
end Go.Proofs.Ytcnebfmlelcliaa
namespace Go.Proofs.Ytcnebfmlelcliaa
set_option linter.unusedSimpArgs false
open Go.RowKit

def Apart (m m' : Ml) (n : List UInt8) (new : Prop) : Prop := (∀ b ∈ m.boxes, b.name.data.toList ≠ n → b ∈ m'.boxes) ∧ ∀ t ∈ m'.boxes, (∃ b ∈ m.boxes, b.name = t.name) ∨ (t.name.data.toList = n ∧ new)
theorem Apart.same {m m' : Ml} {n : List UInt8} {new : Prop} (e : m'.boxes = m.boxes) : Apart m m' n new := ⟨fun b hb _ => by rw [e]; exact hb, fun t ht => .inl ⟨t, by rw [e] at ht; exact ht, rfl⟩⟩
theorem Apart.set {m : Ml} {n : List UInt8} {new : Prop} {i : Nat} (hi : i < m.boxes.length) (b : Bx) (hb : b.name = m.boxes[i].name) (hn : m.boxes[i].name.data.toList = n) : Apart m (setM m i b) n new := by
  refine ⟨fun x hx hne => ?_, fun t ht => .inl ?_⟩
  · rcases mem_set_in b hi hx with rfl | h
    · exact absurd hn hne
    · exact h
  · rcases mem_set_out ht with h | rfl
    · exact ⟨t, h, rfl⟩
    · exact ⟨m.boxes[i], List.getElem_mem hi, hb.symm⟩
theorem find_in {m : Ml} (h : RightP m) {b : Bx} (hb : b ∈ m.boxes) : findM m b.name = some b := by
  unfold findM
  cases hf : m.boxes.find? (fun x => x.name.toList == b.name.toList) with
  | none => exact absurd (List.find?_eq_none.1 hf b hb) (by simp)
  | some y =>
    have h1 := List.find?_some hf
    have hy := List.mem_of_find?_eq_some hf
    have e := name_eq h1
    obtain ⟨i, hi, rfl⟩ := List.mem_iff_getElem.1 hy
    obtain ⟨j, hj, rfl⟩ := List.mem_iff_getElem.1 hb
    rcases Nat.lt_trichotomy i j with h3 | h3 | h3
    · have := List.pairwise_iff_getElem.1 h.names i j hi hj h3
      unfold bxltB at this
      rw [e, bytes_sto.irr] at this; cases this
    · subst h3; rfl
    · have := List.pairwise_iff_getElem.1 h.names j i hj hi h3
      unfold bxltB at this
      rw [e, bytes_sto.irr] at this; cases this
end Go.Proofs.Ytcnebfmlelcliaa
namespace Go.Proofs.Ytcnebfmlelcliaa
set_option linter.unusedSimpArgs false
open Go.RowKit

/-- a mailbox that has come of another one -/
structure EvoB (b t : Bx) : Prop where
  name : t.name = b.name
  val : t.validity = b.validity
  next : b.next ≤ t.next
  high : b.high ≤ t.high
  lets : ∀ x ∈ t.letters, (∃ z ∈ b.letters, z.uid = x.uid ∧ z.hash = x.hash) ∨ b.next ≤ x.uid
theorem EvoB.refl (b : Bx) : EvoB b b := ⟨rfl, rfl, Nat.le_refl _, Nat.le_refl _, fun x hx => .inl ⟨x, hx, rfl, rfl⟩⟩
/-- a state that has come of another one -/
structure Evo (m m' : Ml) : Prop where
  nv : m.nv ≤ m'.nv
  ns : m.ns ≤ m'.ns
  boxes : ∀ t ∈ m'.boxes, (∃ b ∈ m.boxes, EvoB b t) ∨ (m.nv ≤ t.validity ∧ ∀ b ∈ m.boxes, b.name ≠ t.name)
theorem Evo.same {m m' : Ml} (e : m'.boxes = m.boxes) (h1 : m.nv ≤ m'.nv) (h2 : m.ns ≤ m'.ns) : Evo m m' := ⟨h1, h2, fun t ht => .inl ⟨t, by rw [e] at ht; exact ht, .refl t⟩⟩
theorem Evo.refl (m : Ml) : Evo m m := .same rfl (Nat.le_refl _) (Nat.le_refl _)
theorem Evo.set {m : Ml} {i : Nat} (hi : i < m.boxes.length) {b : Bx} (hb : EvoB m.boxes[i] b) : Evo m (setM m i b) := by
  refine ⟨Nat.le_refl _, Nat.le_refl _, fun t ht => .inl ?_⟩
  rcases mem_set_out ht with h | rfl
  · exact ⟨t, h, .refl t⟩
  · exact ⟨m.boxes[i], List.getElem_mem hi, hb⟩
end Go.Proofs.Ytcnebfmlelcliaa
namespace Go.Proofs.Ytcnebfmlelcliaa
open Go.RowKit

/-- the first row's number, from one on; 0: there is none -/
def seqN : List Rng → Nat → Nat
  | [], _ => 0
  | r :: l, uid => if r.1 = uid then 1 else match seqN l uid with
    | 0 => 0
    | n + 1 => n + 2
theorem seqN_none : ∀ {l : List Rng} {uid : Nat}, (∀ r ∈ l, r.1 ≠ uid) → seqN l uid = 0
  | [], _, _ => rfl
  | r :: l, uid, h => by
    have h1 : seqN l uid = 0 := seqN_none (fun x hx => h x (by simp [hx]))
    unfold seqN
    rw [if_neg (h r (by simp)), h1]
theorem seqN_at : ∀ {l : List Rng} {uid q : Nat} (hq : q < l.length), (∀ r ∈ l.take q, r.1 ≠ uid) → l[q].1 = uid → seqN l uid = q + 1
  | r :: l, uid, 0, _, _, h => by unfold seqN; rw [if_pos (by simpa using h)]
  | r :: l, uid, q + 1, hq, h1, h2 => by
    have h3 : seqN l uid = q + 1 := seqN_at (by simpa using hq) (fun x hx => h1 x (by simp [hx])) (by simpa using h2)
    unfold seqN
    rw [if_neg (h1 r (by simp)), h3]
theorem seqN_le : ∀ (l : List Rng) (uid : Nat), seqN l uid ≤ l.length
  | [], _ => Nat.le_refl _
  | r :: l, uid => by
    have := seqN_le l uid
    unfold seqN
    split
    · simp
    · split
      · simp
      · rename_i n h; rw [List.length_cons]; omega
theorem row_no {l : List Rng} {q uid : Nat} (hq : q < l.length) (h : ∀ r ∈ l.take q, r.1 ≠ uid) (h2 : l[q].1 ≠ uid) : ∀ r ∈ l.take (q + 1), r.1 ≠ uid := fun r hr => by
  rw [List.take_succ_eq_append_getElem hq, List.mem_append, List.mem_singleton] at hr
  rcases hr with hr | rfl
  · exact h r hr
  · exact h2
theorem rowAt {w : World} {v : Value} {l : List Rng} {B : Nat} (h : RangesIn w B v l) {k : Nat} (hk : k < l.length) : ∃ b o cap, v = .slice (some ⟨b, o, none⟩) l.length cap ∧ b < B ∧ ∀ j (hj : j < l.length), w.cell? ⟨b, o + j * 2, none⟩ = some (.int .u64 l[j].1) ∧ w.cell? ⟨b, o + j * 2 + 1, none⟩ = some (.int .u64 l[j].2) := by
  obtain ⟨ao, cap, rfl, h0 | ⟨b, o, rfl, hb, _, hc⟩⟩ := h
  · rw [h0] at hk; simp at hk
  · exact ⟨b, o, cap, rfl, hb, hc⟩
set_option maxHeartbeats 1000000 in
theorem rowIs_any (r : Rng) (U uid : Nat) (w : World) (hU : Boxed w U 22 (.int .u64 uid)) :
    Calls Try.prog 43 #[.agg #[.int .u64 r.1, .int .u64 r.2], .pointer (some ⟨U, 0, none⟩)] w fun e w' => e = .returned (.bool (decide (r.1 = uid))) ∧ Hid (Below w.heap.size w w') := by
  obtain ⟨f, t⟩ := r
  dsimp only
  have hb := (Below.refl _ w).alloc (Nat.le_refl _) (.cells #[.int .u64 f, .int .u64 t] 63)
  have cU := (boxed_below hU hb).cell
  replace hb := Lib.hid hb
  clear hU
  by_cases h : f = uid
  · have e1 : ((f : Int) == (uid : Int)) = true := by rw [h]; simp
    have hd := Lib.hid (decide_eq_true h)
    clear h
    go_enter Try.func43, Try.ntmps43
    go_wp2_with fail
    go_ret
    exact ⟨by rw [hd.out]; rfl, hb⟩
  · have e1 : ((f : Int) == (uid : Int)) = false := by rw [beq_eq_false_iff_ne]; omega
    have hd := Lib.hid (decide_eq_false h)
    clear h
    go_enter Try.func43, Try.ntmps43
    go_wp2_with fail
    go_ret
    exact ⟨by rw [hd.out]; rfl, hb⟩
set_option maxRecDepth 100000 in
set_option maxHeartbeats 2000000 in
theorem rowIdx_any (l : List Rng) (v : Value) (U uid : Nat) (w : World) (hl : l.length ≤ 9223372036854775807) (hU : Boxed w U 22 (.int .u64 uid)) (hk : RangesIn w w.heap.size v l) :
    Calls Try.prog 42 #[v, .func (.func 43) #[] #[.pointer (some ⟨U, 0, none⟩)]] w fun e w' => e = .returned (.int .i64 ((seqN l uid : Int) - 1)) ∧ Hid (Below w.heap.size w w') := by
  have hk0 := Lib.hid hk
  have hwa := Lib.hid rowIs_any
  obtain ⟨ao, cap, rfl, _⟩ := hk
  replace hU := Lib.hid hU
  go_enter Try.func42, Try.ntmps42
  go_wp2_with fail
  go_loopw [8] (fun v8 wr => ∃ q : Nat, v8 = .int .i64 q ∧ q ≤ l.length ∧ Hid (∀ r ∈ l.take q, r.1 ≠ uid) ∧ Hid (Below w.heap.size w wr)) (fun v8 _ => l.length - (intOf v8).toNat)
  case atStart => exact ⟨0, rfl, Nat.zero_le _, Lib.hid (by simp), Lib.hid (Below.refl _ _)⟩
  case round =>
    obtain ⟨q, rfl, hq, hno, hb⟩ := hrel
    by_cases hlt : q < l.length
    · obtain ⟨ao', cap', hv, hk | ⟨b, o, hao, hbB, hcap, hcells⟩⟩ := hk0.out.later hb.out
      · rw [hk] at hlt; simp at hlt
      · cases hv
        subst hao
        have hc := hcells q hlt
        have hstep := row_no hlt hno.out
        have hyes := seqN_at hlt hno.out
        have hcall := Lib.hid (hwa.out l[q] U uid wr (boxed_below hU.out hb.out))
        generalize l[q] = k at hc hstep hyes hcall
        obtain ⟨c0, c1⟩ := hc
        clear hcells
        by_cases hB : k.1 = uid
        · rw [decide_eq_true hB] at hcall
          have hyy := Lib.hid (hyes hB)
          clear hstep hyes hB
          go_wp2_with fail
          refine hcall.out.mono ?_
          rintro e w3 ⟨rfl, hb3⟩
          have hb4 := Lib.hid (hb.out.trans (hb3.out.mono hb.out.size))
          clear hcall hb3 c0 c1
          go_wp2_with fail
          go_ret
          exact ⟨by rw [hyy.out]; simp, hb4⟩
        · rw [decide_eq_false hB] at hcall
          replace hstep := Lib.hid (hstep hB)
          clear hyes hB
          go_wp2_with fail
          refine hcall.out.mono ?_
          rintro e w3 ⟨rfl, hb3⟩
          have hb4 := Lib.hid (hb.out.trans (hb3.out.mono hb.out.size))
          clear hcall hb3 c0 c1
          go_wp2_with fail
          go_roundw
          case rel => exact ⟨q + 1, by go_num, by omega, hstep, hb4⟩
          case measure => simp [intOf] <;> omega
    · obtain rfl : q = l.length := by omega
      have hz : Hid (seqN l uid = 0) := Lib.hid (seqN_none (by have := hno.out; rwa [List.take_length] at this))
      go_wp2_with fail
      go_ret
      exact ⟨by rw [hz.out]; rfl, hb⟩
set_option maxRecDepth 100000 in
set_option maxHeartbeats 2000000 in
theorem row_any (s : ByteArray) (val : Nat) (l : List Rng) (v : Value) (uid : Nat) (w : World) (hl : l.length ≤ 9223372036854775807) (hk : RangesIn w w.heap.size v l) :
    Calls Try.prog 25 #[.agg #[.string s, .int .u64 val, v], .int .u64 uid] w fun e w' => e = .returned (.int .i64 ((seqN l uid : Int) - 1)) ∧ Hid (Below w.heap.size w w') := by
  obtain ⟨W1, hW1⟩ : ∃ W1, W1 = w.alloc (.cells #[.string s, .int .u64 val, v] 25) := ⟨_, rfl⟩
  obtain ⟨W2, hW2⟩ : ∃ W2, W2 = W1.alloc (.cells #[.int .u64 uid] 22) := ⟨_, rfl⟩
  have s1 : W1.heap.size = w.heap.size + 1 := by rw [hW1]; simp
  have m2 : Boxed W2 (w.heap.size + 1) 22 (.int .u64 uid) := by rw [hW2, ← s1]; exact cells_new W1 _ _
  have b1 : Below w.heap.size w W1 := by rw [hW1]; exact (Below.refl _ w).alloc (Nat.le_refl _) _
  have b2 : Below W1.heap.size W1 W2 := by rw [hW2]; exact (Below.refl _ W1).alloc (Nat.le_refl _) _
  have bw : Below w.heap.size w W2 := b1.trans (b2.mono b1.size)
  have hk2 : RangesIn W2 W2.heap.size v l := (hk.later bw).mono bw.size
  have hcall := rowIdx_any l v (w.heap.size + 1) uid W2 hl m2 hk2
  rw [hW2, hW1] at hcall bw
  replace hcall := Lib.hid hcall
  replace bw := Lib.hid bw
  clear hk2 m2 b1 b2 s1 hW2 hW1 W1 W2
  go_enter Try.func25, Try.ntmps25
  go_wp2_with fail
  refine hcall.out.mono ?_
  rintro e w1 ⟨rfl, hb⟩
  have hb9 := Lib.hid (bw.out.trans (hb.out.mono bw.out.size))
  clear hb bw hcall
  go_wp2_with fail
  go_ret
  exact ⟨rfl, hb9⟩
end Go.Proofs.Ytcnebfmlelcliaa
namespace Go.Proofs.Ytcnebfmlelcliaa
open Go.RowKit

def OwnW (w : World) (B : Nat) (v : Value) (rs : List Rng) : Prop := w.ownsRow B 63 2 v rs.length (rangesCells rs)
theorem OwnW.nil (w : World) (B : Nat) : OwnW w B (.slice none 0 0) [] := World.ownsRow_nil _ _ _ _
theorem OwnW.alloc {w : World} {B : Nat} {v : Value} {rs : List Rng} (h : OwnW w B v rs) (o : Obj) : OwnW (w.alloc o) B v rs := World.ownsRow.alloc h o
theorem OwnW.below {w w' : World} {B : Nat} {v : Value} {rs : List Rng} (h : OwnW w B v rs) (hb : Below w.heap.size w w') : OwnW w' B v rs :=
  World.ownsRow.kept (row := none) h ⟨hb.os, hb.tape, hb.output, hb.size, fun k hk _ => hb.block k hk⟩ (by cases hv : v.ownBlock <;> simp)
theorem OwnW.len {w : World} {B : Nat} {v : Value} {rs : List Rng} (h : OwnW w B v rs) : ∃ a c, v = .slice a rs.length c := by
  rcases h.2 with ⟨rfl, hn⟩ | ⟨g, cap, cur, rfl, _⟩
  · exact ⟨none, 0, by rw [hn]⟩
  · exact ⟨_, _, rfl⟩
theorem row_info : (Try.prog.info? 63).map (fun i => (i.zero, i.size, i.bytes)) = some (some (.agg #[.int .u64 0, .int .u64 0]), 2, 16) := by kernel_rfl
theorem OwnW.ranges {w : World} {B : Nat} {v : Value} {rs : List Rng} (h : OwnW w B v rs) : RangesIn w w.heap.size v rs := Rd.ranges (Rd.of_own h)
theorem OwnW.one (w : World) (x y : Nat) : OwnW (w.alloc (.cells #[.int .u64 x, .int .u64 y] 63)) w.heap.size (.slice (some ⟨w.heap.size, 0, none⟩) 1 1) [(x, y)] :=
  ⟨rfl, .inr ⟨w.heap.size, 1, _, rfl, Nat.le_refl _, heap_alloc_new w _, Nat.le_refl _, by unfold maxLen; omega, rfl, rfl⟩⟩
/-- 'append(v, u...)' of ranges -/
theorem wpList_append_rows {w : World} {ops : Array Oper} {rest : List Oper} {o : Oper} {a : Act} {Q : Exit → Act → World → Prop} (hgd : o.guard = none) (s x : Operand)
    (ho : o.op = .call { callee := .builtin .append, args := #[s, x], argTypes := #[23, 23] }) (B : Nat) (v v2 : Value) (l m : List Rng)
    (hs : a.eval s = v) (hx : a.eval x = v2) (hown : OwnW w B v l) (h2 : Rd w v2 m.length (rangesCells m)) (hlen : (l.length + m.length) * 16 ≤ 140737488355328) (hbase : B ≤ w.heap.size)
    (h : ∀ v' w', OwnW w' B v' (l ++ m) → Below B w w' → wpList Try.prog ops Q rest (a.put o.dst v') w') : wpList Try.prog ops Q (o :: rest) a w := by
  refine wpList_append_rd hgd s x 23 ho B 63 _ 2 16 Try.underlying23 row_info rfl (by decide) v v2 l.length m.length (rangesCells l) (rangesCells m) hs hx hown h2 (rangesCells_len m) (rangesCells_one m) (by unfold maxLen; omega) hlen hbase ?_
  intro v' w' ho' hg' _
  refine h v' w' ?_ ((Below.refl B w).grown hg' hbase (fun k hk => (World.ownsRow.lt hown k hk).1))
  unfold OwnW
  rw [List.length_append, rangesCells_app]
  exact ho'
theorem owns_emptyW (w : World) : OwnW (w.alloc (.cells #[] 63)) w.heap.size (.slice (some ⟨w.heap.size, 0, none⟩) 0 0) [] :=
  ⟨rfl, .inr ⟨w.heap.size, 0, #[], rfl, Nat.le_refl _, heap_alloc_new w _, Nat.le_refl _, by unfold maxLen; omega, rfl, rfl⟩⟩
set_option maxRecDepth 100000 in
set_option maxHeartbeats 2000000 in
theorem cloneRows_any (l : List Rng) (v : Value) (w : World) (hl : l.length ≤ 1000000) (hk : RangesIn w w.heap.size v l) :
    Calls Try.prog 26 #[v] w fun e w' => ∃ v', e = .returned v' ∧ Hid (OwnW w' w.heap.size v' l) ∧ Hid (Below w.heap.size w w') := by
  have hk0 := Lib.hid hk
  obtain ⟨ao, cap, rfl, h0⟩ := hk
  cases ao with
  | none =>
    have e : l = [] := by
      rcases h0 with h | ⟨b, o, h, _⟩
      · exact h
      · cases h
    subst e
    clear h0
    have he : ∀ W : World, (binOp .eql 23 (.slice none 0 cap) (.slice none 0 0)).run Try.prog W = .ok (.bool true) W := fun _ => rfl
    change Calls Try.prog 26 #[.slice none 0 cap] w _
    go_enter Try.func26, Try.ntmps26
    go_wp2_with fail
    go_ret
    exact ⟨_, rfl, Lib.hid (OwnW.nil _ _), Lib.hid (Below.refl _ _)⟩
  | some p =>
    clear h0
    have he : ∀ W : World, (binOp .eql 23 (.slice (some p) l.length cap) (.slice none 0 0)).run Try.prog W = .ok (.bool false) W := fun _ => rfl
    go_enter Try.func26, Try.ntmps26
    go_wp2_with (at_builtin; refine wpList_append_rows rfl (.tmp 5) (.tmp 6) rfl w.heap.size _ _ [] l rfl rfl (owns_emptyW w) ((hk0.out.on ((Below.refl _ _).alloc (Nat.le_refl _) _)).rd) (by simp; omega) (by simp) ?_)
    intro v3 w4 hown4 hb4
    have hb5 : Hid (Below w.heap.size w w4) := Lib.hid (((Below.refl w.heap.size w).alloc (Nat.le_refl _) (.cells #[] 63)).trans hb4)
    have hown5 : Hid (OwnW w4 w.heap.size v3 l) := Lib.hid hown4
    clear hown4 hb4
    go_wp2_with fail
    go_ret
    exact ⟨_, rfl, hown5, hb5⟩
end Go.Proofs.Ytcnebfmlelcliaa
namespace Go.Proofs.Ytcnebfmlelcliaa
open Go.RowKit

theorem rangesCells_set : ∀ (l : List Rng) (j : Nat) (hj : j < l.length) (c : Nat), rangesCells (l.set j (l[j].1, c)) = (rangesCells l).set (j * 2 + 1) (.int .u64 c)
  | r :: l, 0, _, c => by simp [rangesCells, rngCells]
  | r :: l, j + 1, hj, c => by
    have h := rangesCells_set l j (by simpa using hj) c
    show rngCells r ++ rangesCells (l.set j _) = (rngCells r ++ rangesCells l).set _ _
    rw [List.set_append_right _ _ (by show 2 ≤ _; omega)]
    have e : (j + 1) * 2 + 1 - (rngCells r).length = j * 2 + 1 := by show (j + 1) * 2 + 1 - 2 = _; omega
    rw [e, ← h]
    rfl
theorem OwnW.at_ {w : World} {B : Nat} {v : Value} {l : List Rng} (h : OwnW w B v l) {j : Nat} (hj : j < l.length) :
    ∃ g cap, v = .slice (some ⟨g, 0, none⟩) l.length cap ∧ B ≤ g ∧ g < w.heap.size ∧ w.cell? ⟨g, j * 2 + 1, none⟩ = some (.int .u64 l[j].2) ∧ w.frozen? ⟨g, j * 2 + 1, none⟩ = false ∧ ∀ c : Nat, OwnW (w.setCell ⟨g, j * 2 + 1, none⟩ (.int .u64 c)) B v (l.set j (l[j].1, c)) := by
  rcases h.2 with ⟨_, h0⟩ | ⟨g, cap, cur, hv, hB, hg, hle, hm, hs, htk⟩
  · omega
  · have hri := rangesCells_len l
    have hsz : cur.size = cap * 2 := by omega
    refine ⟨g, cap, hv, hB, (Array.getElem?_eq_some_iff.1 hg).1, ?_, ?_, fun c => ⟨rangesCells_len _, .inr ⟨g, cap, cur.setIfInBounds (j * 2 + 1) (.int .u64 c), by rw [List.length_set]; exact hv, hB, ?_, by simpa using hle, hm, by simpa using hs, ?_⟩⟩⟩
    · have h1 : cur.toList[j * 2 + 1]? = (rangesCells l)[j * 2 + 1]? := by
        rw [← htk, List.getElem?_take_of_lt (by omega)]
      rw [rangesCells_get l j hj 1 (by omega)] at h1
      simp only [World.cell?, hg]
      rw [← Array.getElem?_toList, h1]
      rfl
    · simp [World.frozen?, hg]
    · simp only [World.setCell, Array.getElem?_modify, hg, if_true, Option.map_some]
      rfl
    · rw [List.length_set, Array.toList_setIfInBounds, List.take_set, htk, rangesCells_set l j hj c]
theorem OwnW.setOther {w : World} {B : Nat} {v : Value} {l : List Rng} (h : OwnW w B v l) {X j : Nat} (u : Value) (hX : X < B) : OwnW (w.setCell ⟨X, j, none⟩ u) B v l := by
  rcases h.2 with h0 | ⟨g, cap, cur, hv, hB, hg, r⟩
  · exact ⟨h.1, .inl h0⟩
  · exact ⟨h.1, .inr ⟨g, cap, cur, hv, hB, by rw [Below.heap_setCell _ _ _ _ (by show g ≠ X; omega)]; exact hg, r⟩⟩
theorem OwnW.low {w : World} {B B' : Nat} {v : Value} {l : List Rng} (h : OwnW w B v l) (hB : B' ≤ B) : OwnW w B' v l := by
  refine ⟨h.1, ?_⟩
  rcases h.2 with h2 | ⟨g, cap, cur, hv, hb, r⟩
  · exact .inl h2
  · exact .inr ⟨g, cap, cur, hv, Nat.le_trans hB hb, r⟩
theorem two_new (w : World) (o1 o2 : Obj) : ((w.alloc o1).alloc o2).heap[w.heap.size]? = some o1 ∧ ((w.alloc o1).alloc o2).heap[w.heap.size + 1]? = some o2 := by
  have e : (w.alloc o1).heap.size = w.heap.size + 1 := by simp
  refine ⟨heap_below (heap_alloc_new w _) ((Below.refl _ _).alloc (Nat.le_refl _) _), ?_⟩
  rw [← e]; exact heap_alloc_new _ _
end Go.Proofs.Ytcnebfmlelcliaa
namespace Go.Proofs.Ytcnebfmlelcliaa
open Go.RowKit

def mostL (l : List Rng) : Nat := l.foldl (fun m r => max m r.1) 0
theorem mostL_step {l : List Rng} {k : Nat} (h : k < l.length) : mostL (l.take (k + 1)) = max (mostL (l.take k)) l[k].1 := by
  unfold mostL
  rw [List.take_succ_eq_append_getElem h, List.foldl_append]; rfl
set_option maxRecDepth 100000 in
set_option maxHeartbeats 2000000 in
theorem greatest_any (s : ByteArray) (val : Nat) (l : List Rng) (v : Value) (w : World) (hl : l.length ≤ 1000000) (hk : RangesIn w w.heap.size v l) :
    Calls Try.prog 30 #[.agg #[.string s, .int .u64 val, v]] w fun e w' => e = .returned (.int .u64 (mostL l : Nat)) ∧ Hid (Below w.heap.size w w') := by
  have hk0 := Lib.hid hk
  obtain ⟨ao, cap, rfl, _⟩ := hk
  go_enter Try.func30, Try.ntmps30
  go_wp2_with fail
  go_loopw [3, 9] (fun v3 v9 wr => ∃ q : Nat, v9 = .int .i64 q ∧ q ≤ l.length ∧ v3 = .int .u64 (mostL (l.take q) : Nat) ∧ Hid (Below w.heap.size w wr)) (fun _ v9 _ => l.length - (intOf v9).toNat)
  case atStart => exact ⟨0, rfl, Nat.zero_le _, rfl, Lib.hid ((Below.refl _ _).alloc (Nat.le_refl _) _)⟩
  case round =>
    obtain ⟨q, rfl, hq, rfl, hb⟩ := hrel
    by_cases hlt : q < l.length
    · obtain ⟨b, o, cap', hv, hbB, hcells⟩ := rowAt (hk0.out.later hb.out) hlt
      injection hv with q1 q2 q3
      subst q1 q3
      obtain ⟨c0, c1⟩ := hcells q hlt
      have hl1 : (q : Int) < (l.length : Int) := by omega
      have hst := Lib.hid (mostL_step hlt)
      generalize l[q] = k at c0 c1 hst
      obtain ⟨f, t⟩ := k
      dsimp only at c0 c1
      generalize mostL (l.take q) = m at hst ⊢
      have hb2 := Lib.hid (hb.out.alloc hb.out.size (.cells #[.int .u64 f, .int .u64 t] 63))
      clear hcells
      go_wp2_with fail
      go_roundw
      case rel => exact ⟨q + 1, by go_num, by omega, by rw [hst.out]; dsimp only; congr 1; omega, hb2⟩
      case measure => simp [intOf] <;> omega
    · obtain rfl : q = l.length := by omega
      rw [List.take_length]
      go_wp2_with fail
      go_ret
      exact ⟨rfl, hb⟩
end Go.Proofs.Ytcnebfmlelcliaa
namespace Go.Proofs.Ytcnebfmlelcliaa
/-- the Mod of the first letter of a Uid -/
def modAt (b : List (Nat × Nat)) (u : Nat) : Option Nat := (b.find? (fun x => x.1 == u)).map Prod.snd
def keptL (l b : List (Nat × Nat)) (expunge : Bool) : List (Nat × Nat) := if expunge then l.filter (fun r => (modAt b r.1).isSome) else l
def newsL (k b : List (Nat × Nat)) : List (Nat × Nat) := b.filter (fun x => decide (mostL k < x.1))
def turnR (b : List (Nat × Nat)) (r : Nat × Nat) : Nat × Nat := match modAt b r.1 with
  | some m => (r.1, m)
  | none => r
/-- the rows that Sync leaves -/
def syncL (l b : List (Nat × Nat)) (expunge : Bool) : List (Nat × Nat) := (keptL l b expunge).map (turnR b) ++ newsL (keptL l b expunge) b
/-- the expunges of the first k rows, from the last one down -/
def expR (l b : List (Nat × Nat)) : Nat → List (Nat × Nat)
  | 0 => []
  | k + 1 => if (modAt b (l[k]?.getD (0, 0)).1).isSome then expR l b k else (9, k + 1) :: expR l b k
/-- the fetches of the rows from k on -/
def fetR (b : List (Nat × Nat)) : List (Nat × Nat) → Nat → List (Nat × Nat)
  | [], _ => []
  | r :: t, k => if turnR b r = r then fetR b t (k + 1) else (14, k + 1) :: fetR b t (k + 1)
def tellR (l b : List (Nat × Nat)) (expunge : Bool) : List (Nat × Nat) := (if expunge then expR l b l.length else []) ++ ((if newsL (keptL l b expunge) b = [] then [] else [(8, (keptL l b expunge).length + (newsL (keptL l b expunge) b).length)]) ++ fetR b (keptL l b expunge) 0)
end Go.Proofs.Ytcnebfmlelcliaa
namespace Go.Proofs.Ytcnebfmlelcliaa
theorem EvoB.trans {a b c : Bx} (h : EvoB a b) (k : EvoB b c) : EvoB a c := ⟨k.name.trans h.name, k.val.trans h.val, Nat.le_trans h.next k.next, Nat.le_trans h.high k.high, fun x hx => by
  rcases k.lets x hx with ⟨z, hz, e1, e2⟩ | h1
  · rcases h.lets z hz with ⟨y, hy, e3, e4⟩ | h2
    · exact .inl ⟨y, hy, e3.trans e1, e4.trans e2⟩
    · exact .inr (by rw [← e1]; exact h2)
  · exact .inr (Nat.le_trans h.next h1)⟩
def inboxS : ByteArray := ⟨inboxL.toArray⟩
theorem findM_mem {m : Ml} {n : ByteArray} {b : Bx} (h : findM m n = some b) : b ∈ m.boxes ∧ b.name = n := by
  unfold findM at h
  have h1 := List.find?_some h
  exact ⟨List.mem_of_find?_eq_some h, toList_inj_ (eq_of_beq h1)⟩
theorem right_inbox {m : Ml} (h : RightP m) : ∃ b, findM m inboxS = some b := by
  obtain ⟨b, hb, hn⟩ := h.inbox
  have e : b.name = inboxS := toList_inj_ (by rw [ByteArray.toList_eq, ByteArray.toList_eq, hn]; rfl)
  exact ⟨b, e ▸ find_in h hb⟩
/-- a mailbox's letters, as a view has them -/
def rowsB (b : Bx) : List (Nat × Nat) := b.letters.map fun x => (x.uid, x.mod)
theorem rowsB_up {b : Bx} {n : Nat} (h : BoxP b n) : (rowsB b).Pairwise (fun x y => x.1 < y.1) := by
  unfold rowsB
  rw [List.pairwise_map]
  exact h.up
end Go.Proofs.Ytcnebfmlelcliaa
namespace Go.Proofs.Ytcnebfmlelcliaa
set_option linter.unusedSimpArgs false
open Go.RowKit

/-- the tail waits for all the head, or there is none -/
def tailOk (md : Region.Mode) (ops : Array Oper) (n : Nat) : Bool := decide (ops.size ≤ n) || (Region.sinkB md ops n && chB md ops n)
theorem tail_waits2 {md : Region.Mode} {ops : Array Oper} {n : Nat} {listed : Array Bool} (hs : tailOk md ops n = true) (inv : HeadInv md ops n listed) {i : Nat} (hi : i < n) (hun : listed.getD i true = false) : ∀ t, n ≤ t → t ∉ Region.ready md ops listed := by
  unfold tailOk at hs
  simp only [Bool.or_eq_true, Bool.and_eq_true, decide_eq_true_eq] at hs
  rcases hs with hs | ⟨h1, h2⟩
  · intro t ht hr
    obtain ⟨_, ot, hot, _⟩ := mem_ready.1 hr
    have := (Array.getElem?_eq_some_iff.1 hot).1
    omega
  · exact tail_waits' h1 h2 inv _ i rfl hi hun
structure HdOkP (ops : Array Oper) (n : Nat) : Prop where
  sel : Region.noSelect ops = true
  tail : tailOk .any ops n = true
section
variable {P : Program} {ops : Array Oper} {Q : Exit → Act → World → Prop} {md : Region.Mode} {p : Nat} {S : Bool → World → Prop} {T : Array Bool → Act → World → Prop}
/-- where operation i may be met -/
def SAll (md : Region.Mode) (ops : Array Oper) (n i p : Nat) (S : Bool → World → Prop) : World → Prop := fun w => ∃ l : Array Bool, HeadInv md ops n l ∧ l.getD i true = false ∧ S (l.getD p false) w
/-- whatever order is picked among the first n; S holds behind each; then T, and the last g follow in their order -/
def wpHdP (P : Program) (md : Region.Mode) (ops : Array Oper) (Q : Exit → Act → World → Prop) (p : Nat) (S : Bool → World → Prop) (n : Nat) (T : Array Bool → Act → World → Prop) : Nat → Array Bool → Act → World → Prop
  | 0, listed, a, w => lateB md ops n listed = true ∧ T listed a w
  | f + 1, listed, a, w => Region.ready md ops listed ≠ [] ∧ ∀ i ∈ Region.ready md ops listed, i < n ∧ wpOp P ops Q i (fun a' w' => S ((listed.setIfInBounds i true).getD p false) w' ∧ wpHdP P md ops Q p S n T f (listed.setIfInBounds i true) a' w') a w
theorem wpHdP_first {n i : Nat} {oi : Oper} {v : Value} (hi : ops[i]? = some oi) (hsel : ∀ (j : Nat) (o : Oper) cs b, ops[j]? = some o → o.op ≠ .select cs b)
    (hQ : ∀ c a w, Q (.panic c) (a.put oi.dst v) w → Q (.panic c) a w)
    (hs : tailOk md ops n = true) (hin : i < n) :
    ∀ (f : Nat) (listed : Array Bool) (a : Act) (w : World), HeadInv md ops n listed →
      (∀ j oj, ops[j]? = some oj → j ≠ i → listed.getD j true = false → (∀ e ∈ oj.after, Region.binds md e = true → e.on ≠ i) → oi.apart ops oj = true) →
      i ∈ Region.ready md ops listed → i ≠ p → YieldsIf P ops (SAll md ops n i p S) oi v a → S (listed.getD p false) w →
      wpHdP P md ops Q p S n T f (listed.setIfInBounds i true) (a.put oi.dst v) w → wpHdP P md ops Q p S n T (f + 1) listed a w := by
  intro f
  induction f with
  | zero =>
    intro listed a w inv _ hr hip hy hS H
    have hun := (mem_ready.1 hr).1
    refine ⟨fun h => (by rw [h] at hr; cases hr), fun j hj => ?_⟩
    have hjn : j < n := by
      rcases Nat.lt_or_ge j n with h | h
      · exact h
      · exact absurd hj (tail_waits2 hs inv hin hun j h)
    refine ⟨hjn, ?_⟩
    by_cases hji : j = i
    · subst hji; exact hy.wpOp hi ⟨listed, inv, hun, hS⟩ ⟨by rw [getD_set_ne false hip]; exact hS, H⟩
    · have := lateB_spec H.1 j (ready_mono hj hji)
      omega
  | succ f ih =>
    intro listed a w inv hfree hr hip hy hS H
    have hun := (mem_ready.1 hr).1
    refine ⟨fun h => (by rw [h] at hr; cases hr), fun j hj => ?_⟩
    have hjn : j < n := by
      rcases Nat.lt_or_ge j n with h | h
      · exact h
      · exact absurd hj (tail_waits2 hs inv hin hun j h)
    refine ⟨hjn, ?_⟩
    by_cases hji : j = i
    · subst hji; exact hy.wpOp hi ⟨listed, inv, hun, hS⟩ ⟨by rw [getD_set_ne false hip]; exact hS, H⟩
    · have h1 := (H.2 j (ready_mono hj hji)).2
      obtain ⟨hjun, oj, hoj, hall⟩ := mem_ready.1 hj
      have hnot : ∀ e ∈ oj.after, Region.binds md e = true → e.on ≠ i := fun e he hb heq => by
        have h1 := hall e he hb
        rw [heq, getD_both hun] at h1
        cases h1
      have h2 := wpOp_putIf hoj (hfree j oj hoj hji hjun hnot) (fun cs b => hsel i oi cs b hi) (fun cs b => hsel j oj cs b hoj) hQ hy h1
      have hfree' : ∀ k ok, ops[k]? = some ok → k ≠ i → (listed.setIfInBounds j true).getD k true = false →
          (∀ e ∈ ok.after, Region.binds md e = true → e.on ≠ i) → oi.apart ops ok = true := fun k ok hk hki hun hno => by
        refine hfree k ok hk hki ?_ hno
        by_cases hjk : j = k
        · subst hjk; exact hjun
        · rw [getD_set_ne true hjk] at hun; exact hun
      have hSj : ∀ w', S (((listed.setIfInBounds i true).setIfInBounds j true).getD p false) w' → S ((listed.setIfInBounds j true).getD p false) w' := fun w' h => by rw [Array.setIfInBounds_comm _ _ (Ne.symm hji), getD_set_ne false hip] at h; exact h
      refine wpOp_mono (fun a' w' h3 => ⟨hSj _ h3.2.1, ih (listed.setIfInBounds j true) a' w' (inv.set hj hjn) hfree' (ready_mono hr (Ne.symm hji)) hip h3.1 (hSj _ h3.2.1) ?_⟩) h2
      rw [Array.setIfInBounds_comm _ _ hji]
      exact h3.2.2
/-- the goal of a walk by hand: the listed ones are closed -/
def HdP (P : Program) (ops : Array Oper) (Q : Exit → Act → World → Prop) (p : Nat) (S : Bool → World → Prop) (n : Nat) (T : Array Bool → Act → World → Prop) (f : Nat) (listed : Array Bool) (a : Act) (w : World) : Prop :=
  HeadInv .any ops n listed → wpHdP P .any ops Q p S n T f listed a w
/-- number i is taken first -/
theorem HdP.take {n i f : Nat} {oi : Oper} {v : Value} {listed : Array Bool} {a : Act} {w : World} (hok : HdOkP ops n) (hi : ops[i]? = some oi) (hb : (decide (i < n) && ((Region.ready .any ops listed).contains i && Region.free .any ops listed i)) = true)
    (hQ : ∀ c a w, Q (.panic c) (a.put oi.dst v) w → Q (.panic c) a w) (hip : i ≠ p) (hy : YieldsIf P ops (SAll .any ops n i p S) oi v a) (hS : S (listed.getD p false) w)
    (h : HdP P ops Q p S n T f (listed.setIfInBounds i true) (a.put oi.dst v) w) : HdP P ops Q p S n T (f + 1) listed a w := fun inv => by
  simp only [Bool.and_eq_true, decide_eq_true_eq] at hb
  have hr : i ∈ Region.ready .any ops listed := by simpa using hb.2.1
  exact wpHdP_first hi (Region.noSelect_spec hok.sel) hQ hok.tail hb.1 f listed a w inv (Region.free_spec hi hb.2.2) hr hip hy hS (h (inv.set hr hb.1))
/-- one alone may come up -/
theorem HdP.one {n i f : Nat} {oi : Oper} {listed : Array Bool} {a : Act} {w : World} (hi : ops[i]? = some oi) (hb : (decide (i < n) && (Region.ready .any ops listed == [i])) = true)
    (h : ∀ K' : Act → World → Prop, Shut (∀ a w, S ((listed.setIfInBounds i true).getD p false) w → HdP P ops Q p S n T f (listed.setIfInBounds i true) a w → K' a w) → if Region.wanted oi (yielded ops a.tmps) = true then Oper.wp P oi a w K' Q else K' (a.put oi.dst undef) w) : HdP P ops Q p S n T (f + 1) listed a w := fun inv => by
  simp only [Bool.and_eq_true, decide_eq_true_eq, beq_iff_eq] at hb
  have hr : i ∈ Region.ready .any ops listed := by rw [hb.2]; simp
  refine ⟨by rw [hb.2]; simp, fun j hj => ?_⟩
  rw [hb.2] at hj
  obtain rfl : j = i := by simpa using hj
  exact ⟨hb.1, wpOp_step hi (fun K' hK => h K' (fun a w hS hW => hK a w ⟨hS, hW (inv.set hr hb.1)⟩))⟩
/-- two may come up -/
theorem HdP.two {n i k f : Nat} {oi ok : Oper} {listed : Array Bool} {a : Act} {w : World} (hi : ops[i]? = some oi) (hk : ops[k]? = some ok) (hb : (decide (i < n) && (decide (k < n) && (Region.ready .any ops listed == [i, k]))) = true)
    (h : ∀ K' : Act → World → Prop, Shut (∀ a w, S ((listed.setIfInBounds i true).getD p false) w → HdP P ops Q p S n T f (listed.setIfInBounds i true) a w → K' a w) → if Region.wanted oi (yielded ops a.tmps) = true then Oper.wp P oi a w K' Q else K' (a.put oi.dst undef) w)
    (h2 : ∀ K' : Act → World → Prop, Shut (∀ a w, S ((listed.setIfInBounds k true).getD p false) w → HdP P ops Q p S n T f (listed.setIfInBounds k true) a w → K' a w) → if Region.wanted ok (yielded ops a.tmps) = true then Oper.wp P ok a w K' Q else K' (a.put ok.dst undef) w) : HdP P ops Q p S n T (f + 1) listed a w := fun inv => by
  simp only [Bool.and_eq_true, decide_eq_true_eq, beq_iff_eq] at hb
  have hri : i ∈ Region.ready .any ops listed := by rw [hb.2.2]; simp
  have hrk : k ∈ Region.ready .any ops listed := by rw [hb.2.2]; simp
  refine ⟨by rw [hb.2.2]; simp, fun j hj => ?_⟩
  rw [hb.2.2] at hj
  by_cases e : j = i
  · subst e
    exact ⟨hb.1, wpOp_step hi (fun K' hK => h K' (fun a w hS hW => hK a w ⟨hS, hW (inv.set hri hb.1)⟩))⟩
  · obtain rfl : j = k := by
      simp only [List.mem_cons, List.not_mem_nil, or_false] at hj
      rcases hj with h | h
      · exact absurd h e
      · exact h
    exact ⟨hb.2.1, wpOp_step hk (fun K' hK => h2 K' (fun a w hS hW => hK a w ⟨hS, hW (inv.set hrk hb.2.1)⟩))⟩
theorem HdP.done {n g : Nat} {l : List Oper} {listed : Array Bool} {a : Act} {w : World} (hb : (lateB .any ops n listed && Region.seqB .any ops g n listed) = true) (h : wpList P ops Q l a w) : HdP P ops Q p S n (TailT P ops Q n g l) 0 listed a w := fun _ => by
  rw [Bool.and_eq_true] at hb
  exact ⟨hb.1, hb.2, h⟩
end
section
variable {P : Program} {ops : Array Oper} {Q : Exit → Act → World → Prop} {S : World → Prop} {T : Array Bool → Act → World → Prop}
end
end Go.Proofs.Ytcnebfmlelcliaa
