/- What is light is small enough: plain. hash, begun: walked. begun: walked. alive's states: plain. A region that draws its order, where one operation of the head turns the condition. SameLetter: walked. SameBox, asked about two mailboxes that are the same: walked. SameNumbers: walked. -/
import Derived.Test.YtdobbfjmlnlieaaGreatB21
import Derived.Test.YtdobbfjmlnlieaaGreatB01
import Derived.Test.YtdobbfjmlnlieaaGreatB16
namespace Go.Proofs.YtdobbfjmlnlieaaGreat
set_option linter.unusedSimpArgs false
open Go.RowKit

theorem le_sum_mem {α : Type} (f : α → Nat) {x : α} : ∀ {l : List α}, x ∈ l → f x ≤ (l.map f).sum
  | y :: r, h => by
    simp only [List.map_cons, List.sum_cons]
    rcases List.mem_cons.1 h with rfl | h
    · omega
    · have := le_sum_mem f h; omega
theorem fewN_lt {n : Nat} (h : fewN n < 1048576) : n = fewN n := by unfold fewN at h ⊢; omega
theorem textsN_sized {l : List (List UInt8)} (h : textsN l < 9000) : l.length ≤ 200 ∧ Sized l := by
  unfold textsN at h
  split at h
  · omega
  · refine ⟨by omega, fun x hx => ?_⟩
    have h1 := le_sum_mem textN hx
    have h2 : textN x < 9000 := by omega
    unfold textN at h2
    have h3 := fewN_lt (n := x.length) (by omega)
    have h4 : (mkB x).size = x.length := by simp [mkB, ByteArray.size]
    rw [h4]
    unfold maxLen
    omega
theorem light_parts {m : Ml} {l : List Rq} (h : lightB m l = true) : m.boxes.length ≤ 50 ∧ m.seats.length ≤ 100 ∧ m.homes.length ≤ 50 ∧ l.length ≤ 200 ∧ (∀ b ∈ m.boxes, b.letters.length ≤ 500) ∧ (∀ q ∈ l, q.uids.length ≤ 1000) ∧ (∀ b ∈ m.boxes, boxN b < 9000) ∧ (∀ q ∈ l, reqN q < 9000) := by
  unfold lightB at h
  simp only [Bool.and_eq_true, decide_eq_true_eq, List.all_eq_true] at h
  refine ⟨h.1.1.1.1.1.1, h.1.1.1.1.1.2, h.1.1.1.1.2, h.1.1.1.2, h.1.1.2, h.1.2, fun b hb => ?_, fun q hq => ?_⟩
  · have := le_sum_mem boxN hb; have := h.2; omega
  · have := le_sum_mem reqN hq; have := h.2; omega
theorem light_ask {m : Ml} {l : List Rq} (h : lightB m l = true) : AskSz m := by
  have hp := light_parts h
  have hl : ∀ b ∈ m.boxes, ∀ x ∈ b.letters, textsN x.flags < 9000 := by
    intro b hb x hx
    have h1 := hp.2.2.2.2.2.2.1 b hb
    have h2 := le_sum_mem letN hx
    unfold boxN at h1
    have h3 : letN x < 9000 := by omega
    unfold letN at h3
    omega
  refine ⟨⟨by omega, by omega, by omega, fun b hb => ?_, fun b hb x hx => ?_⟩, fun b hb => ?_, fun b hb x hx => (textsN_sized (hl b hb x hx)).2⟩
  · have := hp.2.2.2.2.1 b hb; omega
  · have := (textsN_sized (hl b hb x hx)).1; omega
  · have h1 := hp.2.2.2.2.2.2.1 b hb
    unfold boxN at h1
    have h3 := fewN_lt (n := b.name.size) (by omega)
    unfold maxLen
    omega
theorem light_rq {m : Ml} {l : List Rq} (h : lightB m l = true) : ∀ q ∈ l, RqOk q := by
  have hp := light_parts h
  intro q hq
  have h1 := hp.2.2.2.2.2.2.2 q hq
  have h2 := hp.2.2.2.2.2.1 q hq
  unfold reqN at h1
  have h3 := textsN_sized (l := q.flags) (by omega)
  have h4 := fewN_lt (n := q.box.size) (by omega)
  exact ⟨⟨by omega, h3.2, by omega⟩, by unfold maxLen; omega⟩
end Go.Proofs.YtdobbfjmlnlieaaGreat
namespace Go.Proofs.YtdobbfjmlnlieaaGreat
set_option linter.unusedSimpArgs false
open Go.RowKit
attribute [local go_sem ↓] Go.wp_at_zero Go.wp_at_succ

def hashL (c : Nat) : List UInt8 := UInt8.ofNat c :: List.replicate 31 0
theorem mk_hash (w : World) : (Instr.makeSlice 99 (.int .i64 32) (.int .i64 32)).run Tryz.prog w = .ok (.slice (some ⟨w.heap.size, 0, none⟩) 32 32) (w.alloc (.cells #[.int .u8 0, .int .u8 0, .int .u8 0, .int .u8 0, .int .u8 0, .int .u8 0, .int .u8 0, .int .u8 0, .int .u8 0, .int .u8 0, .int .u8 0, .int .u8 0, .int .u8 0, .int .u8 0, .int .u8 0, .int .u8 0, .int .u8 0, .int .u8 0, .int .u8 0, .int .u8 0, .int .u8 0, .int .u8 0, .int .u8 0, .int .u8 0, .int .u8 0, .int .u8 0, .int .u8 0, .int .u8 0, .int .u8 0, .int .u8 0, .int .u8 0, .int .u8 0] 5)) := by kernel_rfl
theorem hash_row : (#[.int .u8 1, .int .u8 0, .int .u8 0, .int .u8 0, .int .u8 0, .int .u8 0, .int .u8 0, .int .u8 0, .int .u8 0, .int .u8 0, .int .u8 0, .int .u8 0, .int .u8 0, .int .u8 0, .int .u8 0, .int .u8 0, .int .u8 0, .int .u8 0, .int .u8 0, .int .u8 0, .int .u8 0, .int .u8 0, .int .u8 0, .int .u8 0, .int .u8 0, .int .u8 0, .int .u8 0, .int .u8 0, .int .u8 0, .int .u8 0, .int .u8 0, .int .u8 0] : Array Value) = ((hashL 1).map (fun b => Value.int .u8 (b.toNat : Int))).toArray := rfl
theorem conv_hash (w : World) : (convert 99 9 (.slice (some ⟨w.heap.size, 0, none⟩) 32 32)).run Tryz.prog (w.alloc (.cells #[.int .u8 1, .int .u8 0, .int .u8 0, .int .u8 0, .int .u8 0, .int .u8 0, .int .u8 0, .int .u8 0, .int .u8 0, .int .u8 0, .int .u8 0, .int .u8 0, .int .u8 0, .int .u8 0, .int .u8 0, .int .u8 0, .int .u8 0, .int .u8 0, .int .u8 0, .int .u8 0, .int .u8 0, .int .u8 0, .int .u8 0, .int .u8 0, .int .u8 0, .int .u8 0, .int .u8 0, .int .u8 0, .int .u8 0, .int .u8 0, .int .u8 0, .int .u8 0] 5)) = .ok (.string (mkB (hashL 1))) (w.alloc (.cells #[.int .u8 1, .int .u8 0, .int .u8 0, .int .u8 0, .int .u8 0, .int .u8 0, .int .u8 0, .int .u8 0, .int .u8 0, .int .u8 0, .int .u8 0, .int .u8 0, .int .u8 0, .int .u8 0, .int .u8 0, .int .u8 0, .int .u8 0, .int .u8 0, .int .u8 0, .int .u8 0, .int .u8 0, .int .u8 0, .int .u8 0, .int .u8 0, .int .u8 0, .int .u8 0, .int .u8 0, .int .u8 0, .int .u8 0, .int .u8 0, .int .u8 0, .int .u8 0] 5)) := by
  have h := run_convert_bytes_back (P := Tryz.prog) (w.alloc (.cells #[.int .u8 1, .int .u8 0, .int .u8 0, .int .u8 0, .int .u8 0, .int .u8 0, .int .u8 0, .int .u8 0, .int .u8 0, .int .u8 0, .int .u8 0, .int .u8 0, .int .u8 0, .int .u8 0, .int .u8 0, .int .u8 0, .int .u8 0, .int .u8 0, .int .u8 0, .int .u8 0, .int .u8 0, .int .u8 0, .int .u8 0, .int .u8 0, .int .u8 0, .int .u8 0, .int .u8 0, .int .u8 0, .int .u8 0, .int .u8 0, .int .u8 0, .int .u8 0] 5)) 99 9 5 ⟨w.heap.size, 0, none⟩ 32 (hashL 1) Tryz.underlying99 Tryz.underlying5 Tryz.underlying9 (fun j hj => by
    rw [Addr.add_lit, Nat.zero_add]
    simp only [World.cell?, heap_alloc_new, Option.isSome_none, Bool.false_eq_true, if_false]
    rw [hash_row, List.getElem?_toArray, List.getElem?_map, List.getElem?_eq_getElem hj]
    rfl)
  exact h
set_option maxRecDepth 100000 in
set_option maxHeartbeats 16000000 in
theorem hash_any (W : World) : Calls Tryz.prog 28 #[.int .u8 1] W fun e w' => e = .returned (.string (mkB (hashL 1))) ∧ Hid (Below W.heap.size W w') := by
  have hmk := mk_hash
  have hcv := conv_hash W
  go_enter Tryz.func28, Tryz.ntmps28
  go_wp2_with fail
  go_ret
  exact ⟨rfl, Lib.hid ((Below.refl _ W).alloc (Nat.le_refl _) _)⟩

theorem MlIn.stay {W : World} {v : Value} {m : Ml} (h : MlIn W v m) : Stay (fun _ => True) W fun x => MlIn x v m := by
  intro w' hw
  have h2 : MlIn { W with heap := w'.heap } v m := h.below ⟨rfl, rfl, rfl, by
    rcases Nat.eq_zero_or_pos W.heap.size with h0 | h0
    · rw [h0]; exact Nat.zero_le _
    · have e := Array.getElem?_eq_getElem (show W.heap.size - 1 < W.heap.size by omega)
      have := (Array.getElem?_eq_some_iff.1 ((hw (W.heap.size - 1) trivial (by omega)).trans e)).1
      show W.heap.size ≤ w'.heap.size
      omega, fun k hk => hw k trivial hk⟩
  exact h2
theorem new_block {w : World} {B : Nat} (h : w.heap[B]? = some (.cells (bxT.enc newBx).toArray 48 (0, 0))) : MlIn w (mlVal (.slice (some ⟨B, 0, none⟩) 1 1) 2 (.slice none 0 0) (.slice none 0 0) 1 0) newM := by
  have hl : B < w.heap.size := (Array.getElem?_eq_some_iff.1 h).1
  have e : ({ w with heap := w.heap.extract 0 B } : World).heap.size = B := by simp; omega
  have h1 := new_in { w with heap := w.heap.extract 0 B }
  rw [e] at h1
  have e2 : (({ w with heap := w.heap.extract 0 B } : World).alloc (.cells (bxT.enc newBx).toArray 48)).heap.size = B + 1 := by simp; omega
  refine h1.below ⟨rfl, rfl, rfl, by rw [e2]; omega, fun k hk => ?_⟩
  rw [e2] at hk
  rcases Nat.lt_or_ge k B with hk2 | hk2
  · rw [((Below.refl B ({ w with heap := w.heap.extract 0 B } : World)).alloc (by rw [e]; omega) _).block k hk2]
    show w.heap[k]? = (w.heap.extract 0 B)[k]?
    rw [Array.getElem?_extract]
    simp only [Nat.zero_add]
    rw [if_pos (by omega)]
  · obtain rfl : k = B := by omega
    rw [h]
    have := heap_alloc_new ({ w with heap := w.heap.extract 0 k } : World) (.cells (bxT.enc newBx).toArray 48)
    rw [e] at this
    exact this.symm
/-- a state in new memory -/
def MlNew (W : World) (m : Ml) (e : Ending) (w' : World) : Prop := ∃ v, e = .returned v ∧ Hid (Stay (fun k => W.heap.size ≤ k) w' fun x => MlIn x v m) ∧ Hid (Below W.heap.size W w')
set_option maxRecDepth 100000 in
set_option maxHeartbeats 4000000 in
theorem newS_any (W : World) : Calls Tryz.prog 29 #[] W (MlNew W newM) := by
  have hz := ((Zoo.nil W).newBox #[.slice (some ⟨W.heap.size + 1, 0, none⟩) 1 1, .int .u64 2, .slice none 0 0, .slice none 0 0, .int .u64 1, .int .u64 0] 27).newBox #[.string ⟨#[73, 78, 66, 79, 88]⟩, .int .u64 1, .int .u64 1, .int .u64 1, .slice none 0 0] 48
  obtain ⟨hb, -⟩ := hz.box 1 rfl
  obtain ⟨hb0, -⟩ := hz.box 0 rfl
  rw [show (W.alloc (.cells #[.slice (some ⟨W.heap.size + 1, 0, none⟩) 1 1, .int .u64 2, .slice none 0 0, .slice none 0 0, .int .u64 1, .int .u64 0] 27)).heap.size = W.heap.size + 1 from by simp] at hb0
  have h1 : Hid (Stay (fun k => W.heap.size ≤ k) _ fun x => MlIn x (mlVal (.slice (some ⟨W.heap.size + 1, 0, none⟩) 1 1) 2 (.slice none 0 0) (.slice none 0 0) 1 0) newM) := Lib.hid (fun w2 h2 => new_block ((h2 (W.heap.size + 1) (by omega) (Array.getElem?_eq_some_iff.1 hb0).1).trans hb0))
  have h2 := Lib.hid hz.bel
  replace hb := Lib.hid hb
  clear hz hb0
  go_enter Tryz.func29, Tryz.ntmps29
  go_wp2_with fail
  refine bodyPost_ret (results_cell_row rfl _ _ _ 27 _ (0, 0) _ rfl hb.out Tryz.underlying27 rfl rfl) rfl ?_
  exact ⟨_, rfl, h1, h2⟩
end Go.Proofs.YtdobbfjmlnlieaaGreat
namespace Go.Proofs.YtdobbfjmlnlieaaGreat
set_option linter.unusedSimpArgs false
open Go.RowKit
attribute [local go_sem ↓] Go.wp_at_zero Go.wp_at_succ

theorem MlIn.out_ {W : World} {v : Value} {m : Ml} (h : MlIn W v m) : ∃ ab cb nb ah ch as_ cs, v = .agg #[.slice ab nb cb, .int .u64 m.nv, .slice ah m.homes.length ch, .slice as_ m.seats.length cs, .int .u64 m.ns, .int .u64 m.sweeps] := by
  obtain ⟨vb, vh, vs, bs, rfl, -, hib, hih, his⟩ := h
  obtain ⟨ab, cb, rfl, -⟩ := hib.1
  obtain ⟨ah, ch, rfl, -⟩ := hih
  obtain ⟨as_, cs, rfl, -⟩ := his
  exact ⟨_, _, _, _, _, _, _, rfl⟩
/-- a state to begin with -/
def BegunRet (W : World) (m : Ml) (v : Value) (e : Ending) (w' : World) : Prop := ∃ v', e = .returned v' ∧ Hid ((RightP m ∧ v' = v) ∨ (¬ RightP m ∧ Stay (fun k => W.heap.size ≤ k) w' fun x => MlIn x v' newM)) ∧ Hid (Below W.heap.size W w')
def zeroMl : List Value := [.slice none 0 0, .int .u64 0, .slice none 0 0, .slice none 0 0, .int .u64 0, .int .u64 0]
set_option maxRecDepth 100000 in
set_option maxHeartbeats 16000000 in
theorem begun_any {W : World} {m : Ml} (v : Value) (hin : MlIn W v m) (hsz : AskSz m) :
    Calls Tryz.prog 13 #[v] W (BegunRet W m v) := by
  have hin0 := Lib.hid (fun (w' : World) (h : Below W.heap.size W w') => hin.below h)
  obtain ⟨ab, cb, nb, ah, ch, as_, cs, rfl⟩ := hin.out_
  have hz1 := (Zoo.nil W).newBox [.slice ab nb cb, .int .u64 m.nv, .slice ah m.homes.length ch, .slice as_ m.seats.length cs, .int .u64 m.ns, .int .u64 m.sweeps].toArray 27
  have hlt : W.heap.size < (W.alloc (.cells [.slice ab nb cb, .int .u64 m.nv, .slice ah m.homes.length ch, .slice as_ m.seats.length cs, .int .u64 m.ns, .int .u64 m.sweeps].toArray 27)).heap.size := by simp
  generalize hMB : W.heap.size = MB at hz1 hlt
  generalize hWa : (W.alloc (.cells [.slice ab nb cb, .int .u64 m.nv, .slice ah m.homes.length ch, .slice as_ m.seats.length cs, .int .u64 m.ns, .int .u64 m.sweeps].toArray 27)) = Wa at hz1 hlt
  have hz2 := hz1.newBox zeroMl.toArray 27
  have hlt2 : Wa.heap.size < (Wa.alloc (.cells zeroMl.toArray 27)).heap.size := by simp
  generalize hRB : Wa.heap.size = RB at hz2 hlt hlt2
  generalize hWb : (Wa.alloc (.cells zeroMl.toArray 27)) = Wb at hz2 hlt2
  unfold zeroMl at hWb hz2
  replace hz1 := Lib.hid hz1
  have hbel := Lib.hid hz2.bel
  replace hz2 := Lib.hid hz2
  replace hsz := Lib.hid hsz
  clear hin
  go_enter Tryz.func13, Tryz.ntmps13
  go_upto_region 1 with fail
  clear hWa hWb
  obtain ⟨hbM, -⟩ := hz2.out.box 1 rfl
  have x0 : Wb.cell? ⟨MB, 0, none⟩ = some (.slice ab nb cb) := box_cell hbM 0
  have x1 : Wb.cell? ⟨MB, 1, none⟩ = some (.int .u64 m.nv) := box_cell hbM 1
  have x2 : Wb.cell? ⟨MB, 2, none⟩ = some (.slice ah m.homes.length ch) := box_cell hbM 2
  have x3 : Wb.cell? ⟨MB, 3, none⟩ = some (.slice as_ m.seats.length cs) := box_cell hbM 3
  have x4 : Wb.cell? ⟨MB, 4, none⟩ = some (.int .u64 m.ns) := box_cell hbM 4
  have x5 : Wb.cell? ⟨MB, 5, none⟩ = some (.int .u64 m.sweeps) := box_cell hbM 5
  clear hbM
  have hr := Lib.hid (refRightM_any _ (hin0.out Wb hbel.out) hsz.out)
  go_wp2_with (go_at_call 33; refine hr.out.mono ?_; rintro e w1 ⟨B, rfl, hB, hb1⟩; clear x0 x1 x2 x3 x4 x5; refine Hid.out ?_)
  have hz := Lib.hid (hz2.out.below hb1.out)
  obtain ⟨hbM, -⟩ := hz.out.box 1 rfl
  have x0 : w1.cell? ⟨MB, 0, none⟩ = some (.slice ab nb cb) := box_cell hbM 0
  have x1 : w1.cell? ⟨MB, 1, none⟩ = some (.int .u64 m.nv) := box_cell hbM 1
  have x2 : w1.cell? ⟨MB, 2, none⟩ = some (.slice ah m.homes.length ch) := box_cell hbM 2
  have x3 : w1.cell? ⟨MB, 3, none⟩ = some (.slice as_ m.seats.length cs) := box_cell hbM 3
  have x4 : w1.cell? ⟨MB, 4, none⟩ = some (.int .u64 m.ns) := box_cell hbM 4
  have x5 : w1.cell? ⟨MB, 5, none⟩ = some (.int .u64 m.sweeps) := box_cell hbM 5
  obtain ⟨hbR, -⟩ := hz.out.box 0 rfl
  have z0 : w1.cell? ⟨RB, 0, none⟩ = some (.slice none 0 0) := box_cell hbR 0
  have f0 : w1.frozen? ⟨RB, 0, none⟩ = false := box_free hbR 0
  have z1 : w1.cell? ⟨RB, 1, none⟩ = some (.int .u64 0) := box_cell hbR 1
  have f1 : w1.frozen? ⟨RB, 1, none⟩ = false := box_free hbR 1
  have z2 : w1.cell? ⟨RB, 2, none⟩ = some (.slice none 0 0) := box_cell hbR 2
  have f2 : w1.frozen? ⟨RB, 2, none⟩ = false := box_free hbR 2
  have z3 : w1.cell? ⟨RB, 3, none⟩ = some (.slice none 0 0) := box_cell hbR 3
  have f3 : w1.frozen? ⟨RB, 3, none⟩ = false := box_free hbR 3
  have z4 : w1.cell? ⟨RB, 4, none⟩ = some (.int .u64 0) := box_cell hbR 4
  have f4 : w1.frozen? ⟨RB, 4, none⟩ = false := box_free hbR 4
  have z5 : w1.cell? ⟨RB, 5, none⟩ = some (.int .u64 0) := box_cell hbR 5
  have f5 : w1.frozen? ⟨RB, 5, none⟩ = false := box_free hbR 5
  clear hbR
  clear hbM
  have hs1 : RB < w1.heap.size := Nat.lt_of_lt_of_le hlt2 hb1.out.size
  have hzF := Lib.hid (hz.out.fillBox (C := [.slice none 0 0, .int .u64 0, .slice none 0 0, .slice none 0 0, .int .u64 0, .int .u64 0]) 0 rfl [.slice ab nb cb, .int .u64 m.nv, .slice ah m.homes.length ch, .slice as_ m.seats.length cs, .int .u64 m.ns, .int .u64 m.sweeps] rfl)
  simp only [World.setCells, Nat.zero_add] at hzF
  have hnw := Lib.hid (newS_any w1)
  refine Lib.hid ?_
  cases B with
  | true =>
    replace hB : Hid (RightP m) := Lib.hid (hB.out.1 rfl)
    go_wp2_with fail
    refine bodyPost_ret (results_cell_row rfl _ _ _ 27 _ (0, 0) _ rfl (hzF.out.box 0 rfl).1 Tryz.underlying27 rfl rfl) rfl ?_
    exact ⟨_, rfl, Lib.hid (.inl ⟨hB.out, rfl⟩), Lib.hid hzF.out.bel⟩
  | false =>
    replace hB : Hid (¬ RightP m) := Lib.hid (fun h => Bool.noConfusion (hB.out.2 h))
    clear hzF
    go_wp2_with (go_at_call 29; refine hnw.out.mono ?_; rintro e w2 ⟨v2, rfl, hv2, hb2⟩; clear z0 z1 z2 z3 z4 z5 f0 f1 f2 f3 f4 f5 x0 x1 x2 x3 x4 x5; refine Hid.out ?_)
    obtain ⟨ab2, cb2, nb2, ah2, ch2, as2, cs2, rfl⟩ := hv2.out.now.out_
    have hzn := Lib.hid (hz.out.below hb2.out)
    obtain ⟨hbR, -⟩ := hzn.out.box 0 rfl
    have z0 : w2.cell? ⟨RB, 0, none⟩ = some (.slice none 0 0) := box_cell hbR 0
    have f0 : w2.frozen? ⟨RB, 0, none⟩ = false := box_free hbR 0
    have z1 : w2.cell? ⟨RB, 1, none⟩ = some (.int .u64 0) := box_cell hbR 1
    have f1 : w2.frozen? ⟨RB, 1, none⟩ = false := box_free hbR 1
    have z2 : w2.cell? ⟨RB, 2, none⟩ = some (.slice none 0 0) := box_cell hbR 2
    have f2 : w2.frozen? ⟨RB, 2, none⟩ = false := box_free hbR 2
    have z3 : w2.cell? ⟨RB, 3, none⟩ = some (.slice none 0 0) := box_cell hbR 3
    have f3 : w2.frozen? ⟨RB, 3, none⟩ = false := box_free hbR 3
    have z4 : w2.cell? ⟨RB, 4, none⟩ = some (.int .u64 0) := box_cell hbR 4
    have f4 : w2.frozen? ⟨RB, 4, none⟩ = false := box_free hbR 4
    have z5 : w2.cell? ⟨RB, 5, none⟩ = some (.int .u64 0) := box_cell hbR 5
    have f5 : w2.frozen? ⟨RB, 5, none⟩ = false := box_free hbR 5
    clear hbR
    have hzF := Lib.hid (hzn.out.fillBox (C := [.slice none 0 0, .int .u64 0, .slice none 0 0, .slice none 0 0, .int .u64 0, .int .u64 0]) 0 rfl [.slice ab2 nb2 cb2, .int .u64 newM.nv, .slice ah2 newM.homes.length ch2, .slice as2 newM.seats.length cs2, .int .u64 newM.ns, .int .u64 newM.sweeps] rfl)
    have hkF := Lib.hid (KeptB.sets [.slice ab2 nb2 cb2, .int .u64 newM.nv, .slice ah2 newM.homes.length ch2, .slice as2 newM.seats.length cs2, .int .u64 newM.ns, .int .u64 newM.sweeps] 0 (KeptB.refl w2 RB))
    simp only [World.setCells, Nat.zero_add] at hzF hkF
    refine Lib.hid ?_
    go_wp2_with fail
    refine bodyPost_ret (results_cell_row rfl _ _ _ 27 _ (0, 0) _ rfl (hzF.out.box 0 rfl).1 Tryz.underlying27 rfl rfl) rfl ?_
    refine ⟨_, rfl, Lib.hid (.inr ⟨hB.out, ?_⟩), Lib.hid hzF.out.bel⟩
    refine (hv2.out.on (Nat.le_of_eq hkF.out.size.symm) (fun k hk _ => hkF.out.block k (Nat.ne_of_gt (Nat.lt_of_lt_of_le hs1 hk)))).weak (fun k _ hk => ?_)
    have h1 := hbel.out.size
    have h2 := hb1.out.size
    have h3 : w1.heap.size ≤ k := hk
    show W.heap.size ≤ k
    omega
end Go.Proofs.YtdobbfjmlnlieaaGreat
namespace Go.Proofs.YtdobbfjmlnlieaaGreat
set_option linter.unusedSimpArgs false
open Go.RowKit

def aBx : ByteArray := ⟨#[97]⟩
def inB : ByteArray := ⟨#[73, 78, 66, 79, 88]⟩
def h1B : ByteArray := mkB (hashL 1)
def rqZ_ : Rq := ⟨0, 0, 0, 0, 0, 0, ⟨#[]⟩, ⟨#[]⟩, 0, [], [], 0, false, 0, ⟨#[]⟩, 0, 0⟩
def rqA : Rq := { rqZ_ with op := 1, node := 1, life := 1, try_ := 1 }
def rqB : Rq := { rqZ_ with op := 4, session := 1, number := 1, box := aBx }
def rqC : Rq := { rqZ_ with op := 6, session := 1, number := 2, box := aBx, hash := h1B, size := 3 }
def mlA : Ml := { newM with homes := [⟨1, 1, 1⟩], seats := [⟨1, 0, 1, 1, 1⟩], ns := 2 }
def mlB : Ml := { mlA with boxes := [⟨inB, 1, 1, 1, []⟩, ⟨aBx, 2, 1, 1, []⟩], nv := 3, seats := [⟨1, 1, 1, 1, 1⟩] }
def mlC : Ml := { mlB with boxes := [⟨inB, 1, 1, 1, []⟩, ⟨aBx, 2, 2, 2, [⟨1, [], 2, h1B, 3⟩]⟩], seats := [⟨1, 2, 1, 1, 1⟩] }
theorem apA : applyM newM rqA = (mlA, ⟨0, 1, 0, [], []⟩) := by kernel_rfl
theorem apB : applyM mlA rqB = (mlB, ⟨0, 0, 2, [], []⟩) := by kernel_rfl
theorem apC : applyM mlB rqC = (mlC, ⟨0, 0, 2, [1], []⟩) := by kernel_rfl
theorem apD : (applyM mlC rqC).2 = ⟨14, 0, 0, [], []⟩ := by kernel_rfl
theorem ApSt.of (m : Ml) (h1 : m.boxes.length ≤ 500) (h2 : m.homes.length ≤ 100) (h3 : m.seats.length ≤ 1000) (h4 : HomesOk m) (h5 : ∀ b ∈ m.boxes, b.next ≤ 4294967296) (h6 : ∀ b ∈ m.boxes, b.high ≤ 9223372036854775807) (h7 : ∀ b ∈ m.boxes, b.letters.length ≤ 10000) (h8 : ∀ b ∈ m.boxes, ∀ x ∈ b.letters, x.flags.length = 0) (h9 : m.boxes.Pairwise (fun x y => bxltB x y = true)) (h10 : m.sweeps ≤ 9223372036854775807) : ApSt m :=
  ⟨⟨by omega, by omega, h3, h7, fun b hb x hx => by rw [h8 b hb x hx]; omega⟩, h1, h2, h4, h5, h6, fun b hb x hx y hy => by
    rw [List.length_eq_zero_iff.1 (h8 b hb x hx)] at hy
    exact absurd hy List.not_mem_nil, h9, h10⟩
theorem stN : ApSt newM := ApSt.of _ (by decide) (by decide) (by decide) ⟨of_decide_eq_true (by kernel_rfl), of_decide_eq_true (by kernel_rfl)⟩ (of_decide_eq_true (by kernel_rfl)) (of_decide_eq_true (by kernel_rfl)) (of_decide_eq_true (by kernel_rfl)) (of_decide_eq_true (by kernel_rfl)) (of_decide_eq_true (by kernel_rfl)) (by decide)
theorem stA : ApSt mlA := ApSt.of _ (by decide) (by decide) (by decide) ⟨of_decide_eq_true (by kernel_rfl), of_decide_eq_true (by kernel_rfl)⟩ (of_decide_eq_true (by kernel_rfl)) (of_decide_eq_true (by kernel_rfl)) (of_decide_eq_true (by kernel_rfl)) (of_decide_eq_true (by kernel_rfl)) (of_decide_eq_true (by kernel_rfl)) (by decide)
theorem stB : ApSt mlB := ApSt.of _ (by decide) (by decide) (by decide) ⟨of_decide_eq_true (by kernel_rfl), of_decide_eq_true (by kernel_rfl)⟩ (of_decide_eq_true (by kernel_rfl)) (of_decide_eq_true (by kernel_rfl)) (of_decide_eq_true (by kernel_rfl)) (of_decide_eq_true (by kernel_rfl)) (of_decide_eq_true (by kernel_rfl)) (by decide)
theorem stC : ApSt mlC := ApSt.of _ (by decide) (by decide) (by decide) ⟨of_decide_eq_true (by kernel_rfl), of_decide_eq_true (by kernel_rfl)⟩ (of_decide_eq_true (by kernel_rfl)) (of_decide_eq_true (by kernel_rfl)) (of_decide_eq_true (by kernel_rfl)) (of_decide_eq_true (by kernel_rfl)) (of_decide_eq_true (by kernel_rfl)) (by decide)
theorem rqOk_lit (q : Rq) (h1 : q.flags.length = 0) (h2 : q.uids.length = 0) (h3 : q.box.size ≤ 1) : RqOk q :=
  ⟨⟨by omega, fun x hx => by rw [List.length_eq_zero_iff.1 h1] at hx; exact absurd hx List.not_mem_nil, by omega⟩, by unfold maxLen; omega⟩
theorem okA : RqOk rqA := rqOk_lit _ rfl rfl (by decide)
theorem okB : RqOk rqB := rqOk_lit _ rfl rfl (by decide)
theorem okC : RqOk rqC := rqOk_lit _ rfl rfl (by decide)
def y0 : RqV := ⟨none, 0, none, 0⟩
theorem rqIn_lit (W : World) (q : Rq) (h1 : q.flags = []) (h2 : q.uids = []) : RqIn W q y0 := by
  unfold RqIn
  rw [h1, h2]
  exact ⟨⟨none, 0, rfl, .inl rfl⟩, ⟨none, 0, rfl, .inl rfl⟩⟩
theorem fdC : findM mlC aBx = some ⟨aBx, 2, 2, 2, [⟨1, [], 2, h1B, 3⟩]⟩ := by kernel_rfl
end Go.Proofs.YtdobbfjmlnlieaaGreat
namespace Go.Proofs.YtdobbfjmlnlieaaGreat
set_option linter.unusedSimpArgs false
open Go.RowKit

/-- the tail waits for all the head, or there is none -/
def tailOk (md : Region.Mode) (ops : Array Oper) (n : Nat) : Bool := decide (ops.size ≤ n) || (Region.sinkB md ops n && chB md ops n)
theorem tail_waits2 {md : Region.Mode} {ops : Array Oper} {n : Nat} {listed : Array Bool} (hs : tailOk md ops n = true) (inv : HeadInv md ops n listed) {i : Nat} (hi : i < n) (hun : listed.getD i true = false) : ∀ t, n ≤ t → t ∉ Region.ready md ops listed := by
  unfold tailOk at hs
  simp only [Bool.or_eq_true, Bool.and_eq_true, decide_eq_true_eq] at hs
  rcases hs with hs | ⟨h1, h2⟩
  · intro t ht hr
    obtain ⟨_, ot, hot, _⟩ := mem_ready.1 hr
    have := (Array.getElem?_eq_some_iff.1 hot).1
    omega
  · exact tail_waits' h1 h2 inv _ i rfl hi hun
structure HdOkP (ops : Array Oper) (n : Nat) : Prop where
  sel : Region.noSelect ops = true
  tail : tailOk .any ops n = true
section
variable {P : Program} {ops : Array Oper} {Q : Exit → Act → World → Prop} {md : Region.Mode} {p : Nat} {S : Bool → World → Prop} {T : Array Bool → Act → World → Prop}
/-- where operation i may be met -/
def SAll (md : Region.Mode) (ops : Array Oper) (n i p : Nat) (S : Bool → World → Prop) : World → Prop := fun w => ∃ l : Array Bool, HeadInv md ops n l ∧ l.getD i true = false ∧ S (l.getD p false) w
/-- an operation that number p waits for is met ahead of p -/
theorem SAll.early {n i : Nat} {w : World} (h : SAll md ops n i p S w) (hw : Region.waitsFor md ops p i = true) : S false w := by
  obtain ⟨l, inv, h0, hS⟩ := h
  cases hl : l.getD p false with
  | false => rw [hl] at hS; exact hS
  | true =>
    obtain ⟨o, ho, e, he, hb, hon⟩ := Region.waitsFor_spec hw
    have h2 := inv.closed p o ho hl e he hb
    rw [hon, getD_both h0] at h2
    cases h2
/-- whatever order is picked among the first n; S holds behind each; then T, and the last g follow in their order -/
def wpHdP (P : Program) (md : Region.Mode) (ops : Array Oper) (Q : Exit → Act → World → Prop) (p : Nat) (S : Bool → World → Prop) (n : Nat) (T : Array Bool → Act → World → Prop) : Nat → Array Bool → Act → World → Prop
  | 0, listed, a, w => lateB md ops n listed = true ∧ T listed a w
  | f + 1, listed, a, w => Region.ready md ops listed ≠ [] ∧ ∀ i ∈ Region.ready md ops listed, i < n ∧ wpOp P ops Q i (fun a' w' => S ((listed.setIfInBounds i true).getD p false) w' ∧ wpHdP P md ops Q p S n T f (listed.setIfInBounds i true) a' w') a w
theorem wpAny_of_hdP {n g : Nat} (hT : ∀ listed a w, T listed a w → wpAny P md ops Q g listed a w) :
    ∀ (f : Nat) (listed : Array Bool) (a : Act) (w : World), wpHdP P md ops Q p S n T f listed a w → wpAny P md ops Q (f + g) listed a w
  | 0, listed, a, w, h => by rw [Nat.zero_add]; exact hT _ _ _ h.2
  | f + 1, listed, a, w, h => by
    rw [show f + 1 + g = (f + g) + 1 by omega]
    exact ⟨fun h0 => absurd h0 h.1, fun i hi => wpOp_mono (fun a' w' h' => wpAny_of_hdP hT f _ a' w' h'.2) (h.2 i hi).2⟩
theorem wpHdP_first {n i : Nat} {oi : Oper} {v : Value} (hi : ops[i]? = some oi) (hsel : ∀ (j : Nat) (o : Oper) cs b, ops[j]? = some o → o.op ≠ .select cs b)
    (hQ : ∀ c a w, Q (.panic c) (a.put oi.dst v) w → Q (.panic c) a w)
    (hs : tailOk md ops n = true) (hin : i < n) :
    ∀ (f : Nat) (listed : Array Bool) (a : Act) (w : World), HeadInv md ops n listed →
      (∀ j oj, ops[j]? = some oj → j ≠ i → listed.getD j true = false → (∀ e ∈ oj.after, Region.binds md e = true → e.on ≠ i) → oi.apart ops oj = true) →
      i ∈ Region.ready md ops listed → i ≠ p → YieldsIf P ops (SAll md ops n i p S) oi v a → S (listed.getD p false) w →
      wpHdP P md ops Q p S n T f (listed.setIfInBounds i true) (a.put oi.dst v) w → wpHdP P md ops Q p S n T (f + 1) listed a w := by
  intro f
  induction f with
  | zero =>
    intro listed a w inv _ hr hip hy hS H
    have hun := (mem_ready.1 hr).1
    refine ⟨fun h => (by rw [h] at hr; cases hr), fun j hj => ?_⟩
    have hjn : j < n := by
      rcases Nat.lt_or_ge j n with h | h
      · exact h
      · exact absurd hj (tail_waits2 hs inv hin hun j h)
    refine ⟨hjn, ?_⟩
    by_cases hji : j = i
    · subst hji; exact hy.wpOp hi ⟨listed, inv, hun, hS⟩ ⟨by rw [getD_set_ne false hip]; exact hS, H⟩
    · have := lateB_spec H.1 j (ready_mono hj hji)
      omega
  | succ f ih =>
    intro listed a w inv hfree hr hip hy hS H
    have hun := (mem_ready.1 hr).1
    refine ⟨fun h => (by rw [h] at hr; cases hr), fun j hj => ?_⟩
    have hjn : j < n := by
      rcases Nat.lt_or_ge j n with h | h
      · exact h
      · exact absurd hj (tail_waits2 hs inv hin hun j h)
    refine ⟨hjn, ?_⟩
    by_cases hji : j = i
    · subst hji; exact hy.wpOp hi ⟨listed, inv, hun, hS⟩ ⟨by rw [getD_set_ne false hip]; exact hS, H⟩
    · have h1 := (H.2 j (ready_mono hj hji)).2
      obtain ⟨hjun, oj, hoj, hall⟩ := mem_ready.1 hj
      have hnot : ∀ e ∈ oj.after, Region.binds md e = true → e.on ≠ i := fun e he hb heq => by
        have h1 := hall e he hb
        rw [heq, getD_both hun] at h1
        cases h1
      have h2 := wpOp_putIf hoj (hfree j oj hoj hji hjun hnot) (fun cs b => hsel i oi cs b hi) (fun cs b => hsel j oj cs b hoj) hQ hy h1
      have hfree' : ∀ k ok, ops[k]? = some ok → k ≠ i → (listed.setIfInBounds j true).getD k true = false →
          (∀ e ∈ ok.after, Region.binds md e = true → e.on ≠ i) → oi.apart ops ok = true := fun k ok hk hki hun hno => by
        refine hfree k ok hk hki ?_ hno
        by_cases hjk : j = k
        · subst hjk; exact hjun
        · rw [getD_set_ne true hjk] at hun; exact hun
      have hSj : ∀ w', S (((listed.setIfInBounds i true).setIfInBounds j true).getD p false) w' → S ((listed.setIfInBounds j true).getD p false) w' := fun w' h => by rw [Array.setIfInBounds_comm _ _ (Ne.symm hji), getD_set_ne false hip] at h; exact h
      refine wpOp_mono (fun a' w' h3 => ⟨hSj _ h3.2.1, ih (listed.setIfInBounds j true) a' w' (inv.set hj hjn) hfree' (ready_mono hr (Ne.symm hji)) hip h3.1 (hSj _ h3.2.1) ?_⟩) h2
      rw [Array.setIfInBounds_comm _ _ hji]
      exact h3.2.2
/-- the goal of a walk by hand: the listed ones are closed -/
def HdP (P : Program) (ops : Array Oper) (Q : Exit → Act → World → Prop) (p : Nat) (S : Bool → World → Prop) (n : Nat) (T : Array Bool → Act → World → Prop) (f : Nat) (listed : Array Bool) (a : Act) (w : World) : Prop :=
  HeadInv .any ops n listed → wpHdP P .any ops Q p S n T f listed a w
/-- number i is taken first -/
theorem HdP.take {n i f : Nat} {oi : Oper} {v : Value} {listed : Array Bool} {a : Act} {w : World} (hok : HdOkP ops n) (hi : ops[i]? = some oi) (hb : (decide (i < n) && ((Region.ready .any ops listed).contains i && Region.free .any ops listed i)) = true)
    (hQ : ∀ c a w, Q (.panic c) (a.put oi.dst v) w → Q (.panic c) a w) (hip : i ≠ p) (hy : YieldsIf P ops (SAll .any ops n i p S) oi v a) (hS : S (listed.getD p false) w)
    (h : HdP P ops Q p S n T f (listed.setIfInBounds i true) (a.put oi.dst v) w) : HdP P ops Q p S n T (f + 1) listed a w := fun inv => by
  simp only [Bool.and_eq_true, decide_eq_true_eq] at hb
  have hr : i ∈ Region.ready .any ops listed := by simpa using hb.2.1
  exact wpHdP_first hi (Region.noSelect_spec hok.sel) hQ hok.tail hb.1 f listed a w inv (Region.free_spec hi hb.2.2) hr hip hy hS (h (inv.set hr hb.1))
/-- one alone may come up -/
theorem HdP.one {n i f : Nat} {oi : Oper} {listed : Array Bool} {a : Act} {w : World} (hi : ops[i]? = some oi) (hb : (decide (i < n) && (Region.ready .any ops listed == [i])) = true)
    (h : ∀ K' : Act → World → Prop, Shut (∀ a w, S ((listed.setIfInBounds i true).getD p false) w → HdP P ops Q p S n T f (listed.setIfInBounds i true) a w → K' a w) → if Region.wanted oi (yielded ops a.tmps) = true then Oper.wp P oi a w K' Q else K' (a.put oi.dst undef) w) : HdP P ops Q p S n T (f + 1) listed a w := fun inv => by
  simp only [Bool.and_eq_true, decide_eq_true_eq, beq_iff_eq] at hb
  have hr : i ∈ Region.ready .any ops listed := by rw [hb.2]; simp
  refine ⟨by rw [hb.2]; simp, fun j hj => ?_⟩
  rw [hb.2] at hj
  obtain rfl : j = i := by simpa using hj
  exact ⟨hb.1, wpOp_step hi (fun K' hK => h K' (fun a w hS hW => hK a w ⟨hS, hW (inv.set hr hb.1)⟩))⟩
/-- two may come up -/
theorem HdP.two {n i k f : Nat} {oi ok : Oper} {listed : Array Bool} {a : Act} {w : World} (hi : ops[i]? = some oi) (hk : ops[k]? = some ok) (hb : (decide (i < n) && (decide (k < n) && (Region.ready .any ops listed == [i, k]))) = true)
    (h : ∀ K' : Act → World → Prop, Shut (∀ a w, S ((listed.setIfInBounds i true).getD p false) w → HdP P ops Q p S n T f (listed.setIfInBounds i true) a w → K' a w) → if Region.wanted oi (yielded ops a.tmps) = true then Oper.wp P oi a w K' Q else K' (a.put oi.dst undef) w)
    (h2 : ∀ K' : Act → World → Prop, Shut (∀ a w, S ((listed.setIfInBounds k true).getD p false) w → HdP P ops Q p S n T f (listed.setIfInBounds k true) a w → K' a w) → if Region.wanted ok (yielded ops a.tmps) = true then Oper.wp P ok a w K' Q else K' (a.put ok.dst undef) w) : HdP P ops Q p S n T (f + 1) listed a w := fun inv => by
  simp only [Bool.and_eq_true, decide_eq_true_eq, beq_iff_eq] at hb
  have hri : i ∈ Region.ready .any ops listed := by rw [hb.2.2]; simp
  have hrk : k ∈ Region.ready .any ops listed := by rw [hb.2.2]; simp
  refine ⟨by rw [hb.2.2]; simp, fun j hj => ?_⟩
  rw [hb.2.2] at hj
  by_cases e : j = i
  · subst e
    exact ⟨hb.1, wpOp_step hi (fun K' hK => h K' (fun a w hS hW => hK a w ⟨hS, hW (inv.set hri hb.1)⟩))⟩
  · obtain rfl : j = k := by
      simp only [List.mem_cons, List.not_mem_nil, or_false] at hj
      rcases hj with h | h
      · exact absurd h e
      · exact h
    exact ⟨hb.2.1, wpOp_step hk (fun K' hK => h2 K' (fun a w hS hW => hK a w ⟨hS, hW (inv.set hrk hb.2.1)⟩))⟩
theorem HdP.fin {n : Nat} {listed : Array Bool} {a : Act} {w : World} (hb : lateB .any ops n listed = true) (h : HeadInv .any ops n listed → T listed a w) : HdP P ops Q p S n T 0 listed a w := fun inv => ⟨hb, h inv⟩
theorem HdP.done {n g : Nat} {l : List Oper} {listed : Array Bool} {a : Act} {w : World} (hb : (lateB .any ops n listed && Region.seqB .any ops g n listed) = true) (h : wpList P ops Q l a w) : HdP P ops Q p S n (TailT P ops Q n g l) 0 listed a w := fun _ => by
  rw [Bool.and_eq_true] at hb
  exact ⟨hb.1, hb.2, h⟩
end
section
variable {P : Program} {ops : Array Oper} {Q : Exit → Act → World → Prop} {S : World → Prop} {T : Array Bool → Act → World → Prop}
/-- three may come up -/
theorem Hd.three {n i k m f : Nat} {oi ok om : Oper} {listed : Array Bool} {a : Act} {w : World} (hi : ops[i]? = some oi) (hk : ops[k]? = some ok) (hm : ops[m]? = some om) (hb : (decide (i < n) && (decide (k < n) && (decide (m < n) && (Region.ready .any ops listed == [i, k, m])))) = true)
    (h : ∀ K' : Act → World → Prop, Shut (∀ a w, S w → Hd P ops Q S n T f (listed.setIfInBounds i true) a w → K' a w) → if Region.wanted oi (yielded ops a.tmps) = true then Oper.wp P oi a w K' Q else K' (a.put oi.dst undef) w)
    (h2 : ∀ K' : Act → World → Prop, Shut (∀ a w, S w → Hd P ops Q S n T f (listed.setIfInBounds k true) a w → K' a w) → if Region.wanted ok (yielded ops a.tmps) = true then Oper.wp P ok a w K' Q else K' (a.put ok.dst undef) w)
    (h3 : ∀ K' : Act → World → Prop, Shut (∀ a w, S w → Hd P ops Q S n T f (listed.setIfInBounds m true) a w → K' a w) → if Region.wanted om (yielded ops a.tmps) = true then Oper.wp P om a w K' Q else K' (a.put om.dst undef) w) : Hd P ops Q S n T (f + 1) listed a w := fun inv => by
  simp only [Bool.and_eq_true, decide_eq_true_eq, beq_iff_eq] at hb
  have hri : i ∈ Region.ready .any ops listed := by rw [hb.2.2.2]; simp
  have hrk : k ∈ Region.ready .any ops listed := by rw [hb.2.2.2]; simp
  have hrm : m ∈ Region.ready .any ops listed := by rw [hb.2.2.2]; simp
  refine ⟨by rw [hb.2.2.2]; simp, fun j hj => ?_⟩
  rw [hb.2.2.2] at hj
  by_cases e : j = i
  · subst e
    exact ⟨hb.1, wpOp_step hi (fun K' hK => h K' (fun a w hS hW => hK a w ⟨hS, hW (inv.set hri hb.1)⟩))⟩
  · by_cases e2 : j = k
    · subst e2
      exact ⟨hb.2.1, wpOp_step hk (fun K' hK => h2 K' (fun a w hS hW => hK a w ⟨hS, hW (inv.set hrk hb.2.1)⟩))⟩
    · obtain rfl : j = m := by
        simp only [List.mem_cons, List.not_mem_nil, or_false] at hj
        rcases hj with h | h | h
        · exact absurd h e
        · exact absurd h e2
        · exact h
      exact ⟨hb.2.2.1, wpOp_step hm (fun K' hK => h3 K' (fun a w hS hW => hK a w ⟨hS, hW (inv.set hrm hb.2.2.1)⟩))⟩
end
/-- the beginning -/
theorem wp_region_hdP {P : Program} {Q : Exit → Act → World → Prop} {id : Nat} {a : Act} {w : World} {l : List Oper} (p : Nat) (S : Bool → World → Prop) (n g : Nat) (hm : P.follows .mixedOrders = true) (hg : n + g = l.length) (hok : HdOkP l.toArray n) (hS : S false w.drew)
    (h : HdOkP l.toArray n → S false w.drew → HdP P l.toArray Q p S n (TailT P l.toArray Q n g (l.drop n)) n (Array.replicate l.toArray.size false) a w.drew) : (Code.region id l.toArray true).wp P Q a w := by
  refine wp_region_any hm ?_
  have := wpAny_of_hdP (Q := Q) (p := p) (S := S) (g := g) (n := n) (tailT_any hg) n _ _ _ (h hok hS (inv_start l n))
  rw [hg] at this
  simpa using this
end Go.Proofs.YtdobbfjmlnlieaaGreat
namespace Go.Proofs.YtdobbfjmlnlieaaGreat
set_option linter.unusedSimpArgs false
open Go.RowKit
attribute [local go_sem ↓] Go.wp_at_zero Go.wp_at_succ

theorem toList_inj_ {u v : ByteArray} (h : u.toList = v.toList) : u = v := by
  rw [ByteArray.toList_eq, ByteArray.toList_eq] at h
  obtain ⟨⟨a⟩⟩ := u
  obtain ⟨⟨b⟩⟩ := v
  simp only at h
  rw [h]
theorem below2 (W : World) (o o2 : Obj) : Below W.heap.size W ((W.alloc o).alloc o2) := ((Below.refl _ W).alloc (Nat.le_refl _) o).alloc (by simp) o2
set_option maxRecDepth 100000 in
set_option maxHeartbeats 16000000 in
theorem sameLt_any {W : World} (X Y : LtV) (hX : FlIn W X.v X.x.flags) (hY : FlIn W Y.v Y.x.flags) (hl : X.x.flags.length * 16 ≤ 140737488355328) :
    Calls Tryz.prog 25 #[.agg (ltCells X).toArray, .agg (ltCells Y).toArray] W (YesNo (X.x = Y.x) W) := by
  have hX := Lib.hid (fun w (hb : Below W.heap.size W w) => hX.below hb)
  have hY := Lib.hid (fun w (hb : Below W.heap.size W w) => hY.below hb)
  replace hl := Lib.hid hl
  unfold ltCells
  go_enter Tryz.func25, Tryz.ntmps25
  cases l0 : ((X.x.uid : Int) == (Y.x.uid : Int)) with
  | false =>
    have n0 : Hid (X.x.uid ≠ Y.x.uid) := Lib.hid (fun h => by rw [h] at l0; simp at l0)
    go_wp2_with fail
    go_ret
    exact ⟨false, rfl, Lib.hid ⟨nofun, fun h => absurd (congrArg Lt.uid h) n0.out⟩, Lib.hid (below2 _ _ _)⟩
  | true =>
    have n0 : Hid (X.x.uid = Y.x.uid) := Lib.hid (by have h := eq_of_beq l0; omega)
    cases l1 : ((X.x.mod : Int) == (Y.x.mod : Int)) with
    | false =>
      have n1 : Hid (X.x.mod ≠ Y.x.mod) := Lib.hid (fun h => by rw [h] at l1; simp at l1)
      go_wp2_with fail
      go_ret
      exact ⟨false, rfl, Lib.hid ⟨nofun, fun h => absurd (congrArg Lt.mod h) n1.out⟩, Lib.hid (below2 _ _ _)⟩
    | true =>
      have n1 : Hid (X.x.mod = Y.x.mod) := Lib.hid (by have h := eq_of_beq l1; omega)
      cases l2 : (X.x.hash.toList == Y.x.hash.toList) with
      | false =>
        have n2 : Hid (X.x.hash ≠ Y.x.hash) := Lib.hid (fun h => by rw [h] at l2; simp at l2)
        go_wp2_with fail
        go_ret
        exact ⟨false, rfl, Lib.hid ⟨nofun, fun h => absurd (congrArg Lt.hash h) n2.out⟩, Lib.hid (below2 _ _ _)⟩
      | true =>
        have n2 : Hid (X.x.hash = Y.x.hash) := Lib.hid (toList_inj_ (by simpa using l2))
        cases l3 : ((X.x.size : Int) == (Y.x.size : Int)) with
        | false =>
          have n3 : Hid (X.x.size ≠ Y.x.size) := Lib.hid (fun h => by rw [h] at l3; simp at l3)
          go_wp2_with fail
          go_ret
          exact ⟨false, rfl, Lib.hid ⟨nofun, fun h => absurd (congrArg Lt.size h) n3.out⟩, Lib.hid (below2 _ _ _)⟩
        | true =>
          have n3 : Hid (X.x.size = Y.x.size) := Lib.hid (by have h := eq_of_beq l3; omega)
          have hs := Lib.hid (fun w hb => same_any X.v Y.v X.x.flags Y.x.flags w (hX.out w hb) (hY.out w hb) hl.out)
          go_wp2_with (go_at_call 24; refine (hs.out _ (below2 _ _ _)).mono ?_; rintro e w3 ⟨rfl, hb3⟩; replace hb3 := Lib.hid hb3)
          go_ret
          refine ⟨_, rfl, Lib.hid ?_, Lib.hid ?_⟩
          · rw [decide_eq_true_eq]
            refine ⟨fun h => ?_, fun h => congrArg Lt.flags h⟩
            have := n0.out; have := n1.out; have := n2.out; have := n3.out
            obtain ⟨⟨_, _, _, _, _⟩, _, _⟩ := X
            obtain ⟨⟨_, _, _, _, _⟩, _, _⟩ := Y
            simp only at *
            subst_vars
            rfl
          · exact (below2 _ _ _).trans (hb3.out.mono (below2 _ _ _).size)
end Go.Proofs.YtdobbfjmlnlieaaGreat
namespace Go.Proofs.YtdobbfjmlnlieaaGreat
set_option linter.unusedSimpArgs false
open Go.RowKit
attribute [local go_sem ↓] Go.wp_at_zero Go.wp_at_succ

theorem LtsIn.cells_at {W : World} {v : Value} {rows : List LtV} (h : LtsIn W v rows) {j : Nat} (hj : j < rows.length) : ∃ b bo cap, v = .slice (some ⟨b, bo, none⟩) rows.length cap ∧
    ∀ W', Below W.heap.size W W' → W'.cell? ⟨b, bo + j * 5, none⟩ = some (.int .u64 rows[j].x.uid) ∧ W'.cell? ⟨b, bo + j * 5 + 1, none⟩ = some rows[j].v ∧ W'.cell? ⟨b, bo + j * 5 + 2, none⟩ = some (.int .u64 rows[j].x.mod) ∧ W'.cell? ⟨b, bo + j * 5 + 3, none⟩ = some (.string rows[j].x.hash) ∧ W'.cell? ⟨b, bo + j * 5 + 4, none⟩ = some (.int .u64 rows[j].x.size) := by
  obtain ⟨b, bo, cap, hv, -, hbl, hc⟩ := ltT.rd_cells h.1 hj
  refine ⟨b, bo, cap, hv, fun W' hb => ?_⟩
  have hk : ∀ r u, (ltT.enc rows[j])[r]? = some u → W'.cell? ⟨b, bo + j * 5 + r, none⟩ = some u := fun r u hu => by
    rw [Nat.add_assoc]
    exact (hb.cell (p := ⟨b, bo + (j * 5 + r), none⟩) hbl).trans (hc r u hu)
  exact ⟨hk 0 _ rfl, hk 1 _ rfl, hk 2 _ rfl, hk 3 _ rfl, hk 4 _ rfl⟩
set_option maxRecDepth 100000 in
set_option maxHeartbeats 16000000 in
theorem sameBox_yes {W : World} (X Y : BxV) (hX : LtsIn W X.v X.rows) (hY : LtsIn W Y.v Y.rows) (he : X.b = Y.b) (hl : X.rows.length ≤ 1000000) (hfl : ∀ y ∈ X.rows, y.x.flags.length * 16 ≤ 140737488355328) :
    Calls Tryz.prog 20 #[bxAgg X, bxAgg Y] W fun e w' => e = .returned (.bool true) ∧ Hid (Below W.heap.size W w') := by
  obtain ⟨nm, va, nx, hg, rows, xa, xc⟩ := X
  obtain ⟨nm2, va2, nx2, hg2, rows2, ya, yc⟩ := Y
  unfold BxV.b at he
  dsimp only at he hl hfl
  injection he with e1 e2 e3 e4 e5
  subst e1 e2 e3 e4
  have hlen : rows2.length = rows.length := by have := congrArg List.length e5; simpa using this.symm
  have hX0 : Hid (∀ w', Below W.heap.size W w' → LtsIn w' (.slice xa rows.length xc) rows) := Lib.hid (fun w' h => hX.below h)
  have hY0 : Hid (∀ w', Below W.heap.size W w' → LtsIn w' (.slice ya rows.length yc) rows2) := Lib.hid (fun w' h => by have := hY.below h; unfold BxV.v at this; dsimp only at this; rw [hlen] at this; exact this)
  replace e5 : Hid (∀ j (h : j < rows.length) (h2 : j < rows2.length), rows[j].x = rows2[j].x) := Lib.hid (fun j h h2 => by
    have := congrArg (fun l : List Lt => l[j]?) e5
    simp only [List.getElem?_map, List.getElem?_eq_getElem h, List.getElem?_eq_getElem h2, Option.map_some, Option.some.injEq] at this
    exact this)
  show Calls Tryz.prog 20 #[.agg #[.string nm, .int .u64 va, .int .u64 nx, .int .u64 hg, .slice xa rows.length xc], .agg #[.string nm, .int .u64 va, .int .u64 nx, .int .u64 hg, .slice ya rows2.length yc]] W _
  rw [hlen]
  replace hlen := Lib.hid hlen
  replace hfl := Lib.hid hfl
  have hz2 := ((Zoo.nil W).newBox [.string nm, .int .u64 va, .int .u64 nx, .int .u64 hg, .slice xa rows.length xc].toArray 48).newBox [.string nm, .int .u64 va, .int .u64 nx, .int .u64 hg, .slice ya rows.length yc].toArray 48
  have hlt : W.heap.size < (W.alloc (.cells [.string nm, .int .u64 va, .int .u64 nx, .int .u64 hg, .slice xa rows.length xc].toArray 48)).heap.size := by simp
  generalize hMB : W.heap.size = MB at hz2 hlt
  generalize hRB : (W.alloc (.cells [.string nm, .int .u64 va, .int .u64 nx, .int .u64 hg, .slice xa rows.length xc].toArray 48)).heap.size = RB at hz2 hlt
  generalize hWb : ((W.alloc (.cells [.string nm, .int .u64 va, .int .u64 nx, .int .u64 hg, .slice xa rows.length xc].toArray 48)).alloc (.cells [.string nm, .int .u64 va, .int .u64 nx, .int .u64 hg, .slice ya rows.length yc].toArray 48)) = Wb at hz2
  have hne : (nm.toList != nm.toList) = false := by simp
  have hne1 : ((va : Int) != (va : Int)) = false := by simp
  have hne2 : ((nx : Int) != (nx : Int)) = false := by simp
  have hne3 : ((hg : Int) != (hg : Int)) = false := by simp
  have hne4 : ((rows.length : Int) != (rows.length : Int)) = false := by simp
  obtain ⟨hbX, -⟩ := hz2.box 1 rfl
  have x0 : Wb.cell? ⟨MB, 0, none⟩ = some (.string nm) := box_cell hbX 0
  have x1 : Wb.cell? ⟨MB, 1, none⟩ = some (.int .u64 va) := box_cell hbX 1
  have x2 : Wb.cell? ⟨MB, 2, none⟩ = some (.int .u64 nx) := box_cell hbX 2
  have x3 : Wb.cell? ⟨MB, 3, none⟩ = some (.int .u64 hg) := box_cell hbX 3
  have x4 : Wb.cell? ⟨MB, 4, none⟩ = some (.slice xa rows.length xc) := box_cell hbX 4
  obtain ⟨hbY, -⟩ := hz2.box 0 rfl
  have y0 : Wb.cell? ⟨RB, 0, none⟩ = some (.string nm) := box_cell hbY 0
  have y1 : Wb.cell? ⟨RB, 1, none⟩ = some (.int .u64 va) := box_cell hbY 1
  have y2 : Wb.cell? ⟨RB, 2, none⟩ = some (.int .u64 nx) := box_cell hbY 2
  have y3 : Wb.cell? ⟨RB, 3, none⟩ = some (.int .u64 hg) := box_cell hbY 3
  have y4 : Wb.cell? ⟨RB, 4, none⟩ = some (.slice ya rows.length yc) := box_cell hbY 4
  clear hbX hbY hX hY
  replace hz2 := Lib.hid hz2
  go_enter Tryz.func20, Tryz.ntmps20
  go_upto_region 1 with fail
  clear hWb hRB
  go_wp2_with fail
  clear x0 x1 x2 x3 x4 y0 y1 y2 y3 y4 hne hne1 hne2 hne3 hne4
  go_loopw [5] (fun v5 wr => ∃ j : Nat, v5 = .int .i64 j ∧ j ≤ rows.length ∧ Hid (Zoo W wr [boxT RB [.string nm, .int .u64 va, .int .u64 nx, .int .u64 hg, .slice ya rows.length yc].toArray 48, boxT MB [.string nm, .int .u64 va, .int .u64 nx, .int .u64 hg, .slice xa rows.length xc].toArray 48])) (fun v5 _ => rows.length - (intOf v5).toNat)
  case atStart => exact ⟨0, rfl, Nat.zero_le _, hz2⟩
  case round =>
    clear hz2
    obtain ⟨j, rfl, hj, hz⟩ := hrel
    obtain ⟨hbX, -⟩ := hz.out.box 1 rfl
    have x4 : wr.cell? ⟨MB, 4, none⟩ = some (.slice xa rows.length xc) := box_cell hbX 4
    clear hbX
    by_cases hlt2 : j < rows.length
    · have hlt3 : j < rows2.length := by rw [hlen.out]; exact hlt2
      have hinX := hX0.out wr hz.out.bel
      have hinY := hY0.out wr hz.out.bel
      obtain ⟨b, bo, cap, hv, hcX⟩ := hinX.cells_at hlt2
      injection hv with hv1 hv2 hv3
      subst hv1 hv3
      obtain ⟨b2, bo2, cap2, hv, hcY⟩ := LtsIn.cells_at (v := .slice ya rows2.length yc) (by rw [hlen.out]; exact hinY) hlt3
      injection hv with hv1 hv2 hv3
      subst hv1 hv3
      have hsame := e5.out j hlt2 hlt3
      have hfX := hinX.2 _ (List.getElem_mem hlt2)
      have hfY := hinY.2 _ (List.getElem_mem hlt3)
      have hfl1 := hfl.out _ (List.getElem_mem hlt2)
      obtain ⟨z, hz'⟩ : ∃ z, rows[j] = z := ⟨_, rfl⟩
      obtain ⟨y, hy'⟩ : ∃ y, rows2[j] = y := ⟨_, rfl⟩
      rw [hz'] at hcX hsame hfX hfl1
      rw [hy'] at hcY hsame hfY
      have hcall : Hid (∀ w', Below wr.heap.size wr w' → Calls Tryz.prog 25 #[.agg #[.int .u64 z.x.uid, .slice z.a z.x.flags.length z.c, .int .u64 z.x.mod, .string z.x.hash, .int .u64 z.x.size], .agg #[.int .u64 y.x.uid, .slice y.a y.x.flags.length y.c, .int .u64 y.x.mod, .string y.x.hash, .int .u64 y.x.size]] w' (YesNo (z.x = y.x) w')) := Lib.hid (fun w' hb => sameLt_any z y (hfX.below hb) (hfY.below hb) hfl1)
      have hi0 : (0 : Int) ≤ (j : Int) := by omega
      have hi1 : (j : Int) < (rows.length : Int) := by omega
      replace hsame := Lib.hid hsame
      replace hcX : Hid (∀ W', Below wr.heap.size wr W' → W'.cell? ⟨b, bo + j * 5, none⟩ = some (.int .u64 z.x.uid) ∧ W'.cell? ⟨b, bo + j * 5 + 1, none⟩ = some (.slice z.a z.x.flags.length z.c) ∧ W'.cell? ⟨b, bo + j * 5 + 2, none⟩ = some (.int .u64 z.x.mod) ∧ W'.cell? ⟨b, bo + j * 5 + 3, none⟩ = some (.string z.x.hash) ∧ W'.cell? ⟨b, bo + j * 5 + 4, none⟩ = some (.int .u64 z.x.size)) := Lib.hid hcX
      replace hcY : Hid (∀ W', Below wr.heap.size wr W' → W'.cell? ⟨b2, bo2 + j * 5, none⟩ = some (.int .u64 y.x.uid) ∧ W'.cell? ⟨b2, bo2 + j * 5 + 1, none⟩ = some (.slice y.a y.x.flags.length y.c) ∧ W'.cell? ⟨b2, bo2 + j * 5 + 2, none⟩ = some (.int .u64 y.x.mod) ∧ W'.cell? ⟨b2, bo2 + j * 5 + 3, none⟩ = some (.string y.x.hash) ∧ W'.cell? ⟨b2, bo2 + j * 5 + 4, none⟩ = some (.int .u64 y.x.size)) := Lib.hid hcY
      have hd := (Below.refl wr.heap.size wr)
      clear hinX hinY hfX hfY hfl1 hz' hy' hlt3
      go_wp2_with fail
      have hzd := hz.out.drew
      replace hd := hd.drew
      have hcXd := hcX.out _ hd
      have hcYd := hcY.out _ hd
      obtain ⟨c0, c1, c2, c3, c4⟩ := hcXd
      obtain ⟨d0, d1, d2, d3, d4⟩ := hcYd
      obtain ⟨hbX, -⟩ := hzd.box 1 rfl
      obtain ⟨hbY, -⟩ := hzd.box 0 rfl
      have hS : wr.drew.cell? ⟨MB, 4, none⟩ = some (.slice (some ⟨b, bo, none⟩) rows.length xc) ∧ wr.drew.cell? ⟨RB, 4, none⟩ = some (.slice (some ⟨b2, bo2, none⟩) rows.length yc) := ⟨box_cell hbX 4, box_cell hbY 4⟩
      clear x4 hbX hbY
      refine wp_region_hd (fun w' => (w'.cell? ⟨MB, 4, none⟩ = some (.slice (some ⟨b, bo, none⟩) rows.length xc) ∧ w'.cell? ⟨RB, 4, none⟩ = some (.slice (some ⟨b2, bo2, none⟩) rows.length yc)) ∧ (w'.cell? ⟨b, bo + j * 5, none⟩ = some (.int .u64 z.x.uid) ∧ w'.cell? ⟨b, bo + j * 5 + 1, none⟩ = some (.slice z.a z.x.flags.length z.c) ∧ w'.cell? ⟨b, bo + j * 5 + 2, none⟩ = some (.int .u64 z.x.mod) ∧ w'.cell? ⟨b, bo + j * 5 + 3, none⟩ = some (.string z.x.hash) ∧ w'.cell? ⟨b, bo + j * 5 + 4, none⟩ = some (.int .u64 z.x.size)) ∧ (w'.cell? ⟨b2, bo2 + j * 5, none⟩ = some (.int .u64 y.x.uid) ∧ w'.cell? ⟨b2, bo2 + j * 5 + 1, none⟩ = some (.slice y.a y.x.flags.length y.c) ∧ w'.cell? ⟨b2, bo2 + j * 5 + 2, none⟩ = some (.int .u64 y.x.mod) ∧ w'.cell? ⟨b2, bo2 + j * 5 + 3, none⟩ = some (.string y.x.hash) ∧ w'.cell? ⟨b2, bo2 + j * 5 + 4, none⟩ = some (.int .u64 y.x.size))) 11 1 (by kernel_rfl) rfl ⟨by kernel_rfl, by kernel_rfl, by kernel_rfl, by decide⟩ ⟨hS, ⟨c0, c1, c2, c3, c4⟩, ⟨d0, d1, d2, d3, d4⟩⟩ (fun hok hS0 => ?_)
      have hcall2 := Lib.hid (hcall.out _ hd)
      generalize wr.drew = Wd at *
      refine Hd.take (i := 0) (v := ?tv343) hok rfl (by kernel_rfl) (fun _ _ _ h => h) (Or.inl ⟨by rfl, ?ty343⟩) (by assumption) ?tr343
      case ty343 => (intro w hSw; (try dsimp only at hSw); go_simp; (try with_reducible rfl))
      try simp only [List.getElem_toArray, List.getElem_cons_succ, List.getElem_cons_zero, Act.put, List.setIfInBounds_toArray, List.set_cons_zero, List.set_cons_succ]
      refine Hd.take (i := 1) (v := ?tv344) hok rfl (by kernel_rfl) (fun _ _ _ h => h) (Or.inl ⟨by rfl, ?ty344⟩) (by assumption) ?tr344
      case ty344 => (intro w hSw; (try dsimp only at hSw); go_simp; (try with_reducible rfl))
      try simp only [List.getElem_toArray, List.getElem_cons_succ, List.getElem_cons_zero, Act.put, List.setIfInBounds_toArray, List.set_cons_zero, List.set_cons_succ]
      refine Hd.take (i := 2) (v := ?tv345) hok rfl (by kernel_rfl) (fun _ _ _ h => h) (Or.inl ⟨by rfl, ?ty345⟩) (by assumption) ?tr345
      case ty345 => (intro w hSw; (try dsimp only at hSw); go_simp; (try with_reducible rfl))
      try simp only [List.getElem_toArray, List.getElem_cons_succ, List.getElem_cons_zero, Act.put, List.setIfInBounds_toArray, List.set_cons_zero, List.set_cons_succ]
      refine Hd.take (i := 3) (v := ?tv346) hok rfl (by kernel_rfl) (fun _ _ _ h => h) (Or.inl ⟨by rfl, ?ty346⟩) (by assumption) ?tr346
      case ty346 => (intro w hSw; (try dsimp only at hSw); go_simp; (try with_reducible rfl))
      try simp only [List.getElem_toArray, List.getElem_cons_succ, List.getElem_cons_zero, Act.put, List.setIfInBounds_toArray, List.set_cons_zero, List.set_cons_succ]
      refine Hd.take (i := 4) (v := ?tv347) hok rfl (by kernel_rfl) (fun _ _ _ h => h) (Or.inl ⟨by rfl, ?ty347⟩) (by assumption) ?tr347
      case ty347 => (intro w hSw; (try dsimp only at hSw); go_simp; (try with_reducible rfl))
      try simp only [List.getElem_toArray, List.getElem_cons_succ, List.getElem_cons_zero, Act.put, List.setIfInBounds_toArray, List.set_cons_zero, List.set_cons_succ]
      refine Hd.take (i := 5) (v := ?tv348) hok rfl (by kernel_rfl) (fun _ _ _ h => h) (Or.inl ⟨by rfl, ?ty348⟩) (by assumption) ?tr348
      case ty348 => (intro w hSw; (try dsimp only at hSw); go_simp; (try with_reducible rfl))
      try simp only [List.getElem_toArray, List.getElem_cons_succ, List.getElem_cons_zero, Act.put, List.setIfInBounds_toArray, List.set_cons_zero, List.set_cons_succ]
      refine Hd.take (i := 6) (v := ?tv349) hok rfl (by kernel_rfl) (fun _ _ _ h => h) (Or.inl ⟨by rfl, ?ty349⟩) (by assumption) ?tr349
      case ty349 => (intro w hSw; (try dsimp only at hSw); go_simp; (try with_reducible rfl))
      try simp only [List.getElem_toArray, List.getElem_cons_succ, List.getElem_cons_zero, Act.put, List.setIfInBounds_toArray, List.set_cons_zero, List.set_cons_succ]
      refine Hd.take (i := 7) (v := ?tv350) hok rfl (by kernel_rfl) (fun _ _ _ h => h) (Or.inl ⟨by rfl, ?ty350⟩) (by assumption) ?tr350
      case ty350 => (intro w hSw; (try dsimp only at hSw); go_simp; (try with_reducible rfl))
      try simp only [List.getElem_toArray, List.getElem_cons_succ, List.getElem_cons_zero, Act.put, List.setIfInBounds_toArray, List.set_cons_zero, List.set_cons_succ]
      refine Hd.take (i := 8) (v := ?tv351) hok rfl (by kernel_rfl) (fun _ _ _ h => h) (Or.inl ⟨by rfl, ?ty351⟩) (by assumption) ?tr351
      case ty351 => (intro w hSw; (try dsimp only at hSw); go_simp; (try with_reducible rfl))
      try simp only [List.getElem_toArray, List.getElem_cons_succ, List.getElem_cons_zero, Act.put, List.setIfInBounds_toArray, List.set_cons_zero, List.set_cons_succ]
      refine Hd.take (i := 9) (v := ?tv352) hok rfl (by kernel_rfl) (fun _ _ _ h => h) (Or.inl ⟨by rfl, ?ty352⟩) (by assumption) ?tr352
      case ty352 => (intro w hSw; (try dsimp only at hSw); go_simp; (try with_reducible rfl))
      try simp only [List.getElem_toArray, List.getElem_cons_succ, List.getElem_cons_zero, Act.put, List.setIfInBounds_toArray, List.set_cons_zero, List.set_cons_succ]
      refine Hd.one (i := 10) rfl (by kernel_rfl) (fun K hK => ?_)
      go_simp
      refine hcall2.out.mono ?_
      rintro e w5 ⟨B, rfl, hB, hb5⟩
      dsimp only
      have hz5 := hzd.below hb5.out
      have hd5 := hd.trans (hb5.out.mono hd.size)
      obtain ⟨hbX, -⟩ := hz5.box 1 rfl
      obtain ⟨hbY, -⟩ := hz5.box 0 rfl
      refine hK _ _ ⟨⟨box_cell hbX 4, box_cell hbY 4⟩, hcX.out _ hd5, hcY.out _ hd5⟩ ?_
      clear hK K
      try simp only [List.getElem_toArray, List.getElem_cons_succ, List.getElem_cons_zero, Act.put, List.setIfInBounds_toArray, List.set_cons_zero, List.set_cons_succ]
      refine Hd.done (by kernel_rfl) ?_
      simp only [List.drop_succ_cons, List.drop_zero]
      replace hz5 := Lib.hid hz5
      obtain rfl : B = true := hB.out.2 hsame.out
      clear hok hS0 c0 c1 c2 c3 c4 d0 d1 d2 d3 d4 hS hcall hcall2 hzd hbX hbY hb5 hB
      go_wp2_with fail
      go_roundw
      case rel => exact ⟨j + 1, by go_num, by omega, hz5⟩
      case measure => simp [intOf] <;> omega
    · obtain rfl : j = rows.length := by omega
      have hbF := Lib.hid hz.out.bel
      go_wp2_with fail
      go_ret
      first | exact ⟨rfl, hbF⟩ | (rw [← hMB]; exact ⟨rfl, hbF⟩)
end Go.Proofs.YtdobbfjmlnlieaaGreat
namespace Go.Proofs.YtdobbfjmlnlieaaGreat
set_option linter.unusedSimpArgs false
open Go.RowKit

def encU (n : Nat) : Value := .int .u64 (n : Int)
theorem cells_u64 : ∀ l : List Nat, u64T.cells l = l.map encU
  | [] => rfl
  | x :: r => by
    have h : u64T.cells (x :: r) = .int .u64 (x : Int) :: u64T.cells r := rfl
    rw [h, cells_u64 r]
    rfl
theorem num_cell {w : World} {b o k : Nat} {l : List Nat} (hc : ∀ i u, (l.map encU)[i]? = some u → w.cell? ⟨b, o + i, none⟩ = some u) (hk : k < l.length) : w.cell? ⟨b, o + k, none⟩ = some (.int .u64 (l[k] : Nat)) := hc k _ (by rw [List.getElem?_map, List.getElem?_eq_getElem hk]; rfl)
set_option maxRecDepth 100000 in
set_option maxHeartbeats 4000000 in
theorem sameNums_any (va vb : Value) (a b : List Nat) (w : World) (ha : Rd w va a.length (a.map encU)) (hb : Rd w vb b.length (b.map encU)) (hl : a.length ≤ 9223372036854775807) :
    Calls Tryz.prog 30 #[va, vb] w fun e w' => e = .returned (.bool (decide (a = b))) ∧ Below w.heap.size w w' := by
  have ha0 := Lib.hid ha
  have hb0 := Lib.hid hb
  obtain ⟨ao, cap, rfl, -⟩ := ha
  obtain ⟨ao2, cap2, rfl, -⟩ := hb
  by_cases hlen : a.length = b.length
  · go_enter Tryz.func30, Tryz.ntmps30
    rw [← hlen]
    have hne : ((a.length : Int) != (a.length : Int)) = false := by simp
    have hlen0 := Lib.hid hlen
    clear hlen
    go_wp2_with fail
    go_loopw [5] (fun v5 wr => ∃ q : Nat, v5 = .int .i64 q ∧ q ≤ a.length ∧ Hid (a.take q = b.take q) ∧ Hid (Below w.heap.size w wr)) (fun v5 _ => a.length - (intOf v5).toNat)
    case atStart => exact ⟨0, rfl, Nat.zero_le _, Lib.hid rfl, Lib.hid (Below.refl _ _)⟩
    case round =>
      obtain ⟨q, rfl, hq, heq, hbl⟩ := hrel
      by_cases hlt : q < a.length
      · have hlt2 : q < b.length := by rw [← hlen0.out]; exact hlt
        obtain ⟨b1, o1, hao, hbl1, hcell1⟩ := ha0.out.at_pos (by omega)
        obtain ⟨b2, o2, hao2, hbl2, hcell2⟩ := hb0.out.at_pos (by omega)
        subst hao hao2
        have c1 := (hbl.out.cell (p := ⟨b1, o1 + q, none⟩) hbl1).trans (num_cell hcell1 hlt)
        have c2 := (hbl.out.cell (p := ⟨b2, o2 + q, none⟩) hbl2).trans (num_cell hcell2 hlt2)
        have hstep : a[q] = b[q] → a.take (q + 1) = b.take (q + 1) := fun h => by rw [List.take_succ_eq_append_getElem hlt, List.take_succ_eq_append_getElem hlt2, heq.out, h]
        have hdiff : a[q] ≠ b[q] → decide (a = b) = false := fun h => decide_eq_false (fun e => h (by subst e; rfl))
        generalize a[q] = x at c1 hstep hdiff
        generalize b[q] = y at c2 hstep hdiff
        clear hcell1 hcell2 hlt2
        have hbW := Lib.hid (fun m => below_drewN hbl.out m)
        have hi0 : (0 : Int) ≤ (q : Int) := by omega
        have hi1 : (q : Int) < (a.length : Int) := by omega
        by_cases hxy : x = y
        · have hs := Lib.hid (hstep hxy)
          have hn : ((x : Int) != (y : Int)) = false := by rw [hxy]; simp
          clear hstep hdiff hxy
          go_wp2_with fail
          go_quiet (fail)
          go_wp2_with fail
          go_roundw
          case rel => exact ⟨q + 1, by go_num, by omega, hs, Lib.hid (hbW.out _)⟩
          case measure => simp [intOf] <;> omega
        · have hd := Lib.hid (hdiff hxy)
          have hn : ((x : Int) != (y : Int)) = true := by rw [bne_iff_ne]; omega
          clear hstep hdiff hxy
          go_wp2_with fail
          go_quiet (fail)
          go_wp2_with fail
          go_ret
          exact ⟨by rw [hd.out]; rfl, hbW.out _⟩
      · obtain rfl : q = a.length := by omega
        have hd : Hid (decide (a = b) = true) := Lib.hid (decide_eq_true (by
          have h := heq.out
          rw [List.take_length] at h
          rw [h, hlen0.out, List.take_length]))
        go_wp2_with fail
        go_ret
        exact ⟨by rw [hd.out]; rfl, hbl.out⟩
  · have hn : ((a.length : Int) != (b.length : Int)) = true := by rw [bne_iff_ne]; omega
    have hd : Hid (decide (a = b) = false) := Lib.hid (decide_eq_false (fun e => hlen (by rw [e])))
    clear hlen
    go_enter Tryz.func30, Tryz.ntmps30
    go_wp2_with fail
    go_ret
    exact ⟨by rw [hd.out]; rfl, Below.refl _ _⟩
end Go.Proofs.YtdobbfjmlnlieaaGreat
