/- What is not great is small enough: plain. (written by tools/gen_Vt.py out of MmP) hash, begun: walked. begun: walked. A state in a block, as the laws of mail hold it; what begun hands back is right. mail.Find, once more: what it hands back reads alike wherever what is new stays. (written by tools/gen_MnF.py out of MlQ) SameLetter: walked. An operation turns no mailbox but the one that it names: plain. How a state comes of another one: plain. (written by tools/gen_Vt.py out of MoL) Where a row stands, in both: walked. Rows of one's own; views alike; rows cloned: walked. Told of the program: walked. The greatest Uid, in both: walked. -/
import Derived.Test.YtcnebfmlelcliaaGreatB19
import Derived.Test.YtcnebfmlelcliaaGreatB17
import Derived.Test.YtcnebfmlelcliaaGreatB18
import Derived.Test.YtcnebfmlelcliaaGreatB15
import Derived.Test.YtcnebfmlelcliaaGreatB04
import Derived.Laws.EntriesVeiled
import Derived.Laws.StructEq
namespace Go.Proofs.YtcnebfmlelcliaaGreat
set_option linter.unusedSimpArgs false
open Go.RowKit

theorem le_sum_mem {α : Type} (f : α → Nat) {x : α} : ∀ {l : List α}, x ∈ l → f x ≤ (l.map f).sum
  | y :: r, h => by
    simp only [List.map_cons, List.sum_cons]
    rcases List.mem_cons.1 h with rfl | h
    · omega
    · have := le_sum_mem f h; omega
theorem fewN_lt {n : Nat} (h : fewN n < 1048576) : n = fewN n := by unfold fewN at h ⊢; omega
theorem textsN_sized {l : List (List UInt8)} (h : textsN l < 9000) : l.length ≤ 200 ∧ Sized l := by
  unfold textsN at h
  split at h
  · omega
  · refine ⟨by omega, fun x hx => ?_⟩
    have h1 := le_sum_mem textN hx
    have h2 : textN x < 9000 := by omega
    unfold textN at h2
    have h3 := fewN_lt (n := x.length) (by omega)
    have h4 : (mkB x).size = x.length := by simp [mkB, ByteArray.size]
    rw [h4]
    unfold maxLen
    omega
theorem light_parts {m : Ml} {l : List Rq} (h : lightB m l = true) : m.boxes.length ≤ 50 ∧ m.seats.length ≤ 100 ∧ m.homes.length ≤ 50 ∧ l.length ≤ 200 ∧ (∀ b ∈ m.boxes, b.letters.length ≤ 500) ∧ (∀ q ∈ l, q.uids.length ≤ 1000) ∧ (∀ b ∈ m.boxes, boxN b < 9000) ∧ (∀ q ∈ l, reqN q < 9000) := by
  unfold lightB at h
  simp only [Bool.and_eq_true, decide_eq_true_eq, List.all_eq_true] at h
  refine ⟨h.1.1.1.1.1.1, h.1.1.1.1.1.2, h.1.1.1.1.2, h.1.1.1.2, h.1.1.2, h.1.2, fun b hb => ?_, fun q hq => ?_⟩
  · have := le_sum_mem boxN hb; have := h.2; omega
  · have := le_sum_mem reqN hq; have := h.2; omega
theorem light_ask {m : Ml} {l : List Rq} (h : lightB m l = true) : AskSz m := by
  have hp := light_parts h
  have hl : ∀ b ∈ m.boxes, ∀ x ∈ b.letters, textsN x.flags < 9000 := by
    intro b hb x hx
    have h1 := hp.2.2.2.2.2.2.1 b hb
    have h2 := le_sum_mem letN hx
    unfold boxN at h1
    have h3 : letN x < 9000 := by omega
    unfold letN at h3
    omega
  refine ⟨⟨by omega, by omega, by omega, fun b hb => ?_, fun b hb x hx => ?_⟩, fun b hb => ?_, fun b hb x hx => (textsN_sized (hl b hb x hx)).2⟩
  · have := hp.2.2.2.2.1 b hb; omega
  · have := (textsN_sized (hl b hb x hx)).1; omega
  · have h1 := hp.2.2.2.2.2.2.1 b hb
    unfold boxN at h1
    have h3 := fewN_lt (n := b.name.size) (by omega)
    unfold maxLen
    omega
theorem light_rq {m : Ml} {l : List Rq} (h : lightB m l = true) : ∀ q ∈ l, RqOk q := by
  have hp := light_parts h
  intro q hq
  have h1 := hp.2.2.2.2.2.2.2 q hq
  have h2 := hp.2.2.2.2.2.1 q hq
  unfold reqN at h1
  have h3 := textsN_sized (l := q.flags) (by omega)
  have h4 := fewN_lt (n := q.box.size) (by omega)
  exact ⟨⟨by omega, h3.2, by omega⟩, by unfold maxLen; omega⟩
end Go.Proofs.YtcnebfmlelcliaaGreat
namespace Go.Proofs.YtcnebfmlelcliaaGreat
set_option linter.unusedSimpArgs false
open Go.RowKit
attribute [local go_sem ↓] Go.wp_at_zero Go.wp_at_succ

def hashL (c : Nat) : List UInt8 := UInt8.ofNat c :: List.replicate 31 0
theorem mk_hash (w : World) : (Instr.makeSlice 152 (.int .i64 32) (.int .i64 32)).run Tryz.prog w = .ok (.slice (some ⟨w.heap.size, 0, none⟩) 32 32) (w.alloc (.cells #[.int .u8 0, .int .u8 0, .int .u8 0, .int .u8 0, .int .u8 0, .int .u8 0, .int .u8 0, .int .u8 0, .int .u8 0, .int .u8 0, .int .u8 0, .int .u8 0, .int .u8 0, .int .u8 0, .int .u8 0, .int .u8 0, .int .u8 0, .int .u8 0, .int .u8 0, .int .u8 0, .int .u8 0, .int .u8 0, .int .u8 0, .int .u8 0, .int .u8 0, .int .u8 0, .int .u8 0, .int .u8 0, .int .u8 0, .int .u8 0, .int .u8 0, .int .u8 0] 5)) := by kernel_rfl
theorem hash_row : (#[.int .u8 1, .int .u8 0, .int .u8 0, .int .u8 0, .int .u8 0, .int .u8 0, .int .u8 0, .int .u8 0, .int .u8 0, .int .u8 0, .int .u8 0, .int .u8 0, .int .u8 0, .int .u8 0, .int .u8 0, .int .u8 0, .int .u8 0, .int .u8 0, .int .u8 0, .int .u8 0, .int .u8 0, .int .u8 0, .int .u8 0, .int .u8 0, .int .u8 0, .int .u8 0, .int .u8 0, .int .u8 0, .int .u8 0, .int .u8 0, .int .u8 0, .int .u8 0] : Array Value) = ((hashL 1).map (fun b => Value.int .u8 (b.toNat : Int))).toArray := rfl
theorem conv_hash (w : World) : (convert 152 9 (.slice (some ⟨w.heap.size, 0, none⟩) 32 32)).run Tryz.prog (w.alloc (.cells #[.int .u8 1, .int .u8 0, .int .u8 0, .int .u8 0, .int .u8 0, .int .u8 0, .int .u8 0, .int .u8 0, .int .u8 0, .int .u8 0, .int .u8 0, .int .u8 0, .int .u8 0, .int .u8 0, .int .u8 0, .int .u8 0, .int .u8 0, .int .u8 0, .int .u8 0, .int .u8 0, .int .u8 0, .int .u8 0, .int .u8 0, .int .u8 0, .int .u8 0, .int .u8 0, .int .u8 0, .int .u8 0, .int .u8 0, .int .u8 0, .int .u8 0, .int .u8 0] 5)) = .ok (.string (mkB (hashL 1))) (w.alloc (.cells #[.int .u8 1, .int .u8 0, .int .u8 0, .int .u8 0, .int .u8 0, .int .u8 0, .int .u8 0, .int .u8 0, .int .u8 0, .int .u8 0, .int .u8 0, .int .u8 0, .int .u8 0, .int .u8 0, .int .u8 0, .int .u8 0, .int .u8 0, .int .u8 0, .int .u8 0, .int .u8 0, .int .u8 0, .int .u8 0, .int .u8 0, .int .u8 0, .int .u8 0, .int .u8 0, .int .u8 0, .int .u8 0, .int .u8 0, .int .u8 0, .int .u8 0, .int .u8 0] 5)) := by
  have h := run_convert_bytes_back (P := Tryz.prog) (w.alloc (.cells #[.int .u8 1, .int .u8 0, .int .u8 0, .int .u8 0, .int .u8 0, .int .u8 0, .int .u8 0, .int .u8 0, .int .u8 0, .int .u8 0, .int .u8 0, .int .u8 0, .int .u8 0, .int .u8 0, .int .u8 0, .int .u8 0, .int .u8 0, .int .u8 0, .int .u8 0, .int .u8 0, .int .u8 0, .int .u8 0, .int .u8 0, .int .u8 0, .int .u8 0, .int .u8 0, .int .u8 0, .int .u8 0, .int .u8 0, .int .u8 0, .int .u8 0, .int .u8 0] 5)) 152 9 5 ⟨w.heap.size, 0, none⟩ 32 (hashL 1) Tryz.underlying152 Tryz.underlying5 Tryz.underlying9 (fun j hj => by
    rw [Addr.add_lit, Nat.zero_add]
    simp only [World.cell?, heap_alloc_new, Option.isSome_none, Bool.false_eq_true, if_false]
    rw [hash_row, List.getElem?_toArray, List.getElem?_map, List.getElem?_eq_getElem hj]
    rfl)
  exact h
theorem MlIn.stay {W : World} {v : Value} {m : Ml} (h : MlIn W v m) : Stay (fun _ => True) W fun x => MlIn x v m := by
  intro w' hw
  have h2 : MlIn { W with heap := w'.heap } v m := h.below ⟨rfl, rfl, rfl, by
    rcases Nat.eq_zero_or_pos W.heap.size with h0 | h0
    · rw [h0]; exact Nat.zero_le _
    · have e := Array.getElem?_eq_getElem (show W.heap.size - 1 < W.heap.size by omega)
      have := (Array.getElem?_eq_some_iff.1 ((hw (W.heap.size - 1) trivial (by omega)).trans e)).1
      show W.heap.size ≤ w'.heap.size
      omega, fun k hk => hw k trivial hk⟩
  exact h2
theorem new_block {w : World} {B : Nat} (h : w.heap[B]? = some (.cells (bxT.enc newBx).toArray 33 (0, 0))) : MlIn w (mlVal (.slice (some ⟨B, 0, none⟩) 1 1) 2 (.slice none 0 0) (.slice none 0 0) 1 0) newM := by
  have hl : B < w.heap.size := (Array.getElem?_eq_some_iff.1 h).1
  have e : ({ w with heap := w.heap.extract 0 B } : World).heap.size = B := by simp; omega
  have h1 := new_in { w with heap := w.heap.extract 0 B }
  rw [e] at h1
  have e2 : (({ w with heap := w.heap.extract 0 B } : World).alloc (.cells (bxT.enc newBx).toArray 33)).heap.size = B + 1 := by simp; omega
  refine h1.below ⟨rfl, rfl, rfl, by rw [e2]; omega, fun k hk => ?_⟩
  rw [e2] at hk
  rcases Nat.lt_or_ge k B with hk2 | hk2
  · rw [((Below.refl B ({ w with heap := w.heap.extract 0 B } : World)).alloc (by rw [e]; omega) _).block k hk2]
    show w.heap[k]? = (w.heap.extract 0 B)[k]?
    rw [Array.getElem?_extract]
    simp only [Nat.zero_add]
    rw [if_pos (by omega)]
  · obtain rfl : k = B := by omega
    rw [h]
    have := heap_alloc_new ({ w with heap := w.heap.extract 0 k } : World) (.cells (bxT.enc newBx).toArray 33)
    rw [e] at this
    exact this.symm
/-- a state in new memory -/
def MlNew (W : World) (m : Ml) (e : Ending) (w' : World) : Prop := ∃ v, e = .returned v ∧ Hid (Stay (fun k => W.heap.size ≤ k) w' fun x => MlIn x v m) ∧ Hid (Below W.heap.size W w')
set_option maxRecDepth 100000 in
set_option maxHeartbeats 4000000 in
theorem newS_any (W : World) : Calls Tryz.prog 20 #[] W (MlNew W newM) := by
  have hz := ((Zoo.nil W).newBox #[.slice (some ⟨W.heap.size + 1, 0, none⟩) 1 1, .int .u64 2, .slice none 0 0, .slice none 0 0, .int .u64 1, .int .u64 0] 27).newBox #[.string ⟨#[73, 78, 66, 79, 88]⟩, .int .u64 1, .int .u64 1, .int .u64 1, .slice none 0 0] 33
  obtain ⟨hb, -⟩ := hz.box 1 rfl
  obtain ⟨hb0, -⟩ := hz.box 0 rfl
  rw [show (W.alloc (.cells #[.slice (some ⟨W.heap.size + 1, 0, none⟩) 1 1, .int .u64 2, .slice none 0 0, .slice none 0 0, .int .u64 1, .int .u64 0] 27)).heap.size = W.heap.size + 1 from by simp] at hb0
  have h1 : Hid (Stay (fun k => W.heap.size ≤ k) _ fun x => MlIn x (mlVal (.slice (some ⟨W.heap.size + 1, 0, none⟩) 1 1) 2 (.slice none 0 0) (.slice none 0 0) 1 0) newM) := Lib.hid (fun w2 h2 => new_block ((h2 (W.heap.size + 1) (by omega) (Array.getElem?_eq_some_iff.1 hb0).1).trans hb0))
  have h2 := Lib.hid hz.bel
  replace hb := Lib.hid hb
  clear hz hb0
  go_enter Tryz.func20, Tryz.ntmps20
  go_wp2_with fail
  refine bodyPost_ret (results_cell_row rfl _ _ _ 27 _ (0, 0) _ rfl hb.out Tryz.underlying27 rfl rfl) rfl ?_
  exact ⟨_, rfl, h1, h2⟩
end Go.Proofs.YtcnebfmlelcliaaGreat
namespace Go.Proofs.YtcnebfmlelcliaaGreat
set_option linter.unusedSimpArgs false
open Go.RowKit
attribute [local go_sem ↓] Go.wp_at_zero Go.wp_at_succ

theorem MlIn.out_ {W : World} {v : Value} {m : Ml} (h : MlIn W v m) : ∃ ab cb nb ah ch as_ cs, v = .agg #[.slice ab nb cb, .int .u64 m.nv, .slice ah m.homes.length ch, .slice as_ m.seats.length cs, .int .u64 m.ns, .int .u64 m.sweeps] := by
  obtain ⟨vb, vh, vs, bs, rfl, -, hib, hih, his⟩ := h
  obtain ⟨ab, cb, rfl, -⟩ := hib.1
  obtain ⟨ah, ch, rfl, -⟩ := hih
  obtain ⟨as_, cs, rfl, -⟩ := his
  exact ⟨_, _, _, _, _, _, _, rfl⟩
/-- a state to begin with -/
def BegunRet (W : World) (m : Ml) (v : Value) (e : Ending) (w' : World) : Prop := ∃ v', e = .returned v' ∧ Hid ((RightP m ∧ v' = v) ∨ (¬ RightP m ∧ Stay (fun k => W.heap.size ≤ k) w' fun x => MlIn x v' newM)) ∧ Hid (Below W.heap.size W w')
def zeroMl : List Value := [.slice none 0 0, .int .u64 0, .slice none 0 0, .slice none 0 0, .int .u64 0, .int .u64 0]

end Go.Proofs.YtcnebfmlelcliaaGreat
namespace Go.Proofs.YtcnebfmlelcliaaGreat
set_option linter.unusedSimpArgs false
open Go.RowKit

theorem right_new : RightP newM where
  lb := by decide
  nv := by show (2 : Nat) ≤ 4294967296; omega
  ns1 := Nat.le_refl _
  ns2 := by show (1 : Nat) ≤ 4611686018427387904; omega
  sw := Nat.zero_le _
  ls := Nat.zero_le _
  boxes := fun b hb => by
    obtain rfl := List.mem_singleton.1 hb
    exact ⟨by kernel_rfl, by kernel_rfl, by decide, by decide, by decide, by show (1 : Nat) ≤ 4294967296; omega, by decide, by show (1 : Nat) ≤ 9223372036854775807; omega, by decide, (fun x hx => by cases hx), List.Pairwise.nil⟩
  names := List.pairwise_singleton _ _
  vals := List.pairwise_singleton _ _
  inbox := ⟨newBx.b, List.mem_singleton.2 rfl, by kernel_rfl⟩
  seated := ⟨(fun h hh => by cases hh), List.Pairwise.nil, (fun h hh => by cases hh), List.Pairwise.nil, List.Pairwise.nil⟩
theorem MlIn.shape {W : World} {C : List Value} {m : Ml} (h : MlIn W (.agg C.toArray) m) : ∃ ab cb nb ah ch as_ cs, C = [.slice ab nb cb, .int .u64 m.nv, .slice ah m.homes.length ch, .slice as_ m.seats.length cs, .int .u64 m.ns, .int .u64 m.sweeps] := by
  obtain ⟨ab, cb, nb, ah, ch, as_, cs, e⟩ := h.out_
  injection e with e
  exact ⟨ab, cb, nb, ah, ch, as_, cs, congrArg Array.toList e⟩
/-- a state lies in block MB, what it refers to elsewhere -/
def HoldsS (W : World) (MB : Nat) (m : Ml) (wr : World) : Prop := ∃ C : List Value, Zoo W wr [boxT MB C.toArray 27] ∧ Stay (fun k => k ≠ MB) wr (fun x => MlIn x (.agg C.toArray) m)
theorem BegunRet.right {W w' : World} {m : Ml} {v : Value} {e : Ending} {MB : Nat} (h : BegunRet W m v e w') (hs : Stay (fun k => k ≠ MB) W fun x => MlIn x v m) (hM : MB < W.heap.size) : ∃ (C : List Value) (m0 : Ml), e = .returned (.agg C.toArray) ∧ RightP m0 ∧ Stay (fun k => k ≠ MB) w' (fun x => MlIn x (.agg C.toArray) m0) ∧ Below W.heap.size W w' := by
  obtain ⟨v', rfl, h1, hb⟩ := h
  have key : ∃ m0, RightP m0 ∧ Stay (fun k => k ≠ MB) w' (fun x => MlIn x v' m0) := by
    rcases h1.out with ⟨hr, rfl⟩ | ⟨-, hn⟩
    · exact ⟨m, hr, hs.below hb.out⟩
    · exact ⟨newM, right_new, hn.weak (fun k _ hk => by have h1 : W.heap.size ≤ k := hk; omega)⟩
  obtain ⟨m0, hr, hst⟩ := key
  obtain ⟨ab, cb, nb, ah, ch, as_, cs, rfl⟩ := hst.now.out_
  exact ⟨[.slice ab nb cb, .int .u64 m0.nv, .slice ah m0.homes.length ch, .slice as_ m0.seats.length cs, .int .u64 m0.ns, .int .u64 m0.sweeps], m0, rfl, hr, hst, hb.out⟩
/-- a state at the beginning, its block just made -/
theorem stay_new {W : World} {v : Value} {m : Ml} (h : MlIn W v m) : Stay (fun k => k ≠ W.heap.size) W fun x => MlIn x v m := h.stay.weak (fun _ hk _ => Nat.ne_of_lt hk)
end Go.Proofs.YtcnebfmlelcliaaGreat
namespace Go.Proofs.YtcnebfmlelcliaaGreat
set_option linter.unusedSimpArgs false
open Go.RowKit
attribute [local go_sem ↓] Go.wp_at_zero Go.wp_at_succ

def FindS (W : World) (m : Ml) (name : ByteArray) (e : Ending) (w' : World) : Prop := ∃ z : BxV, e = .returned (.tuple #[bxAgg z, .bool (findM m name).isSome]) ∧ Hid (z.b = (findM m name).getD bx0.b) ∧ Hid (Stay (fun k => W.heap.size ≤ k) w' fun x => LtsIn x z.v z.rows) ∧ Hid (Below W.heap.size W w')
set_option maxRecDepth 100000 in
set_option maxHeartbeats 8000000 in
theorem findS_any (v : Value) (m : Ml) (W : World) (hin : MlIn W v m) (hs : Sized1 m) (name : ByteArray) :
    Calls Tryz.prog 21 #[v, .string name] W (FindS W m name) := by
  obtain ⟨vb, vh, vs, bs, rfl, hbs, hib, hih, his⟩ := hin
  have hib0 := Lib.hid (fun (W' : World) (h : Below W.heap.size W W') => hib.below h)
  have hlb : bs.length ≤ 1000 := by have := hs.boxes; rw [← hbs, List.length_map] at this; exact this
  obtain ⟨ab, cb, rfl, -⟩ := hib.1
  obtain ⟨ah, ch, rfl, -⟩ := hih
  obtain ⟨as_, cs, rfl, -⟩ := his
  have hz := ((Zoo.nil W).newBox [.slice ab bs.length cb, .int .u64 m.nv, .slice ah m.homes.length ch, .slice as_ m.seats.length cs, .int .u64 m.ns, .int .u64 m.sweeps].toArray 27).newBox (bxCells bx0).toArray 33
  have hs1 : (W.alloc (.cells [.slice ab bs.length cb, .int .u64 m.nv, .slice ah m.homes.length ch, .slice as_ m.seats.length cs, .int .u64 m.ns, .int .u64 m.sweeps].toArray 27)).heap.size = W.heap.size + 1 := by simp
  rw [hs1] at hz
  have hat := Lib.hid (at_any ab ah as_ cb m.homes.length ch m.seats.length cs m.nv m.ns m.sweeps bs name (hib0.out _ hz.bel).1 (by omega))
  unfold bxCells bx0 BxV.v at hz hat
  dsimp only [List.length_nil] at hz hat
  replace hz := Lib.hid hz
  replace hbs := Lib.hid hbs
  replace hs := Lib.hid hs
  clear hib hs1
  unfold mlVal
  go_enter Tryz.func21, Tryz.ntmps21
  go_wp2_with fail
  refine hat.out.mono ?_
  rintro e w2 ⟨rfl, hb2⟩
  have hz2 := hz.out.below hb2.out
  have hfm : findM m name = (bs.find? (fun x => x.name.toList == name.toList)).map BxV.b := by
    unfold findM
    rw [← hbs.out, List.find?_map]; rfl
  unfold atB
  rcases findIdx_find (fun x : BxV => x.name.toList == name.toList) bs with ⟨e1, e2⟩ | ⟨i, hi, e1, e2⟩
  · rw [e1]
    rw [e2] at hfm
    have hfm2 : Hid (findM m name = none) := Lib.hid hfm
    obtain ⟨hb, -⟩ := hz2.box 0 rfl
    have d0 : w2.cell? ⟨W.heap.size + 1, 0, none⟩ = some (.string ⟨#[]⟩) := box_cell hb 0
    have d1 : w2.cell? ⟨W.heap.size + 1, 1, none⟩ = some (.int .u64 0) := box_cell hb 1
    have d2 : w2.cell? ⟨W.heap.size + 1, 2, none⟩ = some (.int .u64 0) := box_cell hb 2
    have d3 : w2.cell? ⟨W.heap.size + 1, 3, none⟩ = some (.int .u64 0) := box_cell hb 3
    have d4 : w2.cell? ⟨W.heap.size + 1, 4, none⟩ = some (.slice none 0 0) := box_cell hb 4
    have f0 := box_free hb
    have hz5 := ((((hz2.setBox 0 rfl 0 (.string ⟨#[]⟩)).setBox 0 rfl 1 (.int .u64 0)).setBox 0 rfl 2 (.int .u64 0)).setBox 0 rfl 3 (.int .u64 0)).setBox 0 rfl 4 (.slice none 0 0)
    obtain ⟨hbz, -⟩ := hz5.box 0 rfl
    replace hbz := Lib.hid hbz
    have hbel := Lib.hid hz5.bel
    clear hz5 hz2 hb hfm e1 e2 hat hb2
    go_wp2_with fail
    refine bodyPost_ret (results_cell_tmp_row rfl _ _ _ (bxCells bx0) rfl hbz.out Tryz.isAgg33 Tryz.sizeOf33) rfl ?_
    exact ⟨bx0, by rw [hfm2.out]; rfl, Lib.hid (by rw [hfm2.out]; rfl), Lib.hid (fun w' _ => ⟨(RT.Own.nil ltT w').rd, fun z hz => by cases hz⟩), hbel⟩
  · rw [e1]
    rw [e2] at hfm
    have hfm2 : Hid (findM m name = some bs[i].b) := Lib.hid hfm
    obtain ⟨hbm, -⟩ := hz2.box 1 rfl
    have m0 : w2.cell? ⟨W.heap.size, 0, none⟩ = some (.slice ab bs.length cb) := box_cell hbm 0
    have hib2 := hib0.out _ hz2.bel
    obtain ⟨b, o, cap, hv, -, hblt, hcells⟩ := bxT.rd_cells hib2.1 hi
    injection hv with hv1 hv2 hv3
    subst hv1
    have hcl := Lib.hid (cloneBox_any bs[i] w2 (hib2.2 _ (List.getElem_mem hi)) (by have := hs.out.letters _ (by rw [← hbs.out]; exact List.mem_map_of_mem (List.getElem_mem hi)); have h : bs[i].b.letters.length = bs[i].rows.length := List.length_map ..; omega) (fun z hz => by have := hs.out.flags bs[i].b (by rw [← hbs.out]; exact List.mem_map_of_mem (List.getElem_mem hi)) z.x (List.mem_map_of_mem hz); omega))
    generalize bs[i] = x at *
    have r0 := hcells 0 _ rfl
    have r1 := hcells 1 _ rfl
    have r2 := hcells 2 _ rfl
    have r3 := hcells 3 _ rfl
    have r4 := hcells 4 _ rfl
    replace r0 : w2.cell? ⟨b, o + i * 5, none⟩ = some (.string x.name) := r0
    replace r1 : w2.cell? ⟨b, o + i * 5 + 1, none⟩ = some (.int .u64 x.validity) := r1
    replace r2 : w2.cell? ⟨b, o + i * 5 + 2, none⟩ = some (.int .u64 x.next) := r2
    replace r3 : w2.cell? ⟨b, o + i * 5 + 3, none⟩ = some (.int .u64 x.high) := r3
    replace r4 : w2.cell? ⟨b, o + i * 5 + 4, none⟩ = some (.slice x.a x.rows.length x.c) := r4
    replace hcl : Hid (Calls Tryz.prog 34 #[.agg #[.string x.name, .int .u64 x.validity, .int .u64 x.next, .int .u64 x.high, .slice x.a x.rows.length x.c]] w2 (CloneBoxRet w2 x)) := hcl
    have hi0 : (0 : Int) ≤ (i : Int) := by omega
    have hil2 : (i : Int) < (bs.length : Int) := by omega
    replace hz2 := Lib.hid hz2
    clear e1 e2 hfm hat hb2 hcells hbm hib2 hv2 hv3
    go_wp2_with fail
    refine hcl.out.mono ?_
    rintro e w3 ⟨z, S, he, hzb, hz3⟩
    unfold bxAgg bxCells BxV.v at he
    subst he
    have hz4 := hz2.out.join hz3.out
    obtain ⟨hb, -⟩ := hz4.box 2 rfl
    have d0 : w3.cell? ⟨W.heap.size + 1, 0, none⟩ = some (.string ⟨#[]⟩) := box_cell hb 0
    have d1 : w3.cell? ⟨W.heap.size + 1, 1, none⟩ = some (.int .u64 0) := box_cell hb 1
    have d2 : w3.cell? ⟨W.heap.size + 1, 2, none⟩ = some (.int .u64 0) := box_cell hb 2
    have d3 : w3.cell? ⟨W.heap.size + 1, 3, none⟩ = some (.int .u64 0) := box_cell hb 3
    have d4 : w3.cell? ⟨W.heap.size + 1, 4, none⟩ = some (.slice none 0 0) := box_cell hb 4
    have f0 := box_free hb
    have hz5 := ((((hz4.setBox 2 rfl 0 (.string z.name)).setBox 2 rfl 1 (.int .u64 z.validity)).setBox 2 rfl 2 (.int .u64 z.next)).setBox 2 rfl 3 (.int .u64 z.high)).setBox 2 rfl 4 (.slice z.a z.rows.length z.c)
    obtain ⟨hbz, -⟩ := hz5.box 2 rfl
    have hlt := Lib.hid (hz5.stay (P := fun x => LtsIn x z.v z.rows) (fun _ _ => rfl) (fun W0 w' h => ⟨(h.own 0 rfl).rd, h.ltsOk 1 rfl hzb.out.2⟩) (fun a b h hb => h.below hb))
    replace hbz := Lib.hid hbz
    have hbel := Lib.hid hz5.bel
    have hzb1 := Lib.hid hzb.out.1
    clear hz5 hz4 hb hcl hz3 hz2 hzb r0 r1 r2 r3 r4
    go_wp2_with fail
    refine bodyPost_ret (results_cell_tmp_row rfl _ _ _ (bxCells z) rfl hbz.out Tryz.isAgg33 Tryz.sizeOf33) rfl ?_
    exact ⟨z, by rw [hfm2.out]; rfl, Lib.hid (by rw [hfm2.out]; exact hzb1.out), hlt, hbel⟩
end Go.Proofs.YtcnebfmlelcliaaGreat
namespace Go.Proofs.YtcnebfmlelcliaaGreat
set_option linter.unusedSimpArgs false
open Go.RowKit
attribute [local go_sem ↓] Go.wp_at_zero Go.wp_at_succ

theorem toList_inj_ {u v : ByteArray} (h : u.toList = v.toList) : u = v := by
  rw [ByteArray.toList_eq, ByteArray.toList_eq] at h
  obtain ⟨⟨a⟩⟩ := u
  obtain ⟨⟨b⟩⟩ := v
  simp only at h
  rw [h]
theorem below2 (W : World) (o o2 : Obj) : Below W.heap.size W ((W.alloc o).alloc o2) := ((Below.refl _ W).alloc (Nat.le_refl _) o).alloc (by simp) o2
end Go.Proofs.YtcnebfmlelcliaaGreat
namespace Go.Proofs.YtcnebfmlelcliaaGreat
set_option linter.unusedSimpArgs false
open Go.RowKit

/-- the mailbox that a request names (of a copy the one that it goes to) -/
def namedOf (q : Rq) : ByteArray := if q.op = 9 then q.to_ else q.box
def Apart (m m' : Ml) (n : List UInt8) (new : Prop) : Prop := (∀ b ∈ m.boxes, b.name.data.toList ≠ n → b ∈ m'.boxes) ∧ ∀ t ∈ m'.boxes, (∃ b ∈ m.boxes, b.name = t.name) ∨ (t.name.data.toList = n ∧ new)
theorem Apart.same {m m' : Ml} {n : List UInt8} {new : Prop} (e : m'.boxes = m.boxes) : Apart m m' n new := ⟨fun b hb _ => by rw [e]; exact hb, fun t ht => .inl ⟨t, by rw [e] at ht; exact ht, rfl⟩⟩
theorem Apart.set {m : Ml} {n : List UInt8} {new : Prop} {i : Nat} (hi : i < m.boxes.length) (b : Bx) (hb : b.name = m.boxes[i].name) (hn : m.boxes[i].name.data.toList = n) : Apart m (setM m i b) n new := by
  refine ⟨fun x hx hne => ?_, fun t ht => .inl ?_⟩
  · rcases mem_set_in b hi hx with rfl | h
    · exact absurd hn hne
    · exact h
  · rcases mem_set_out ht with h | rfl
    · exact ⟨t, h, rfl⟩
    · exact ⟨m.boxes[i], List.getElem_mem hi, hb.symm⟩
theorem open_apart (m : Ml) (q : Rq) (o : Oc) (n : List UInt8) (new : Prop) : Apart m (openM m q o).2.1 n new := by
  unfold openM
  split
  · exact .same rfl
  split
  · exact .same rfl
  split
  · split
    · exact .same rfl
    · exact .same rfl
  split
  · exact .same rfl
  · refine .same ?_
    unfold settleM
    split <;> rfl
theorem create_apart (m : Ml) (q : Rq) (o : Oc) {new : Prop} (hn : new) : Apart m (createM m q o).2.1 q.box.data.toList new := by
  unfold createM
  split
  · exact .same rfl
  split
  · exact .same rfl
  split
  · exact .same rfl
  split
  · exact .same rfl
  · refine ⟨fun b hb _ => (mem_insS bxltB _ b m.boxes).2 (.inr hb), fun t ht => ?_⟩
    rcases (mem_insS bxltB _ t m.boxes).1 ht with rfl | h
    · exact .inr ⟨rfl, hn⟩
    · exact .inl ⟨t, h, rfl⟩
theorem remove_apart (m : Ml) (q : Rq) (o : Oc) (new : Prop) : Apart m (removeM m q o).2.1 q.box.data.toList new := by
  unfold removeM
  split
  · exact .same rfl
  split
  · exact .same rfl
  rename_i i hf
  obtain ⟨hl, he, -⟩ := List.findIdx?_eq_some_iff_getElem.1 hf
  refine ⟨fun b hb hne => ?_, fun t ht => .inl ⟨t, ?_, rfl⟩⟩
  · obtain ⟨j, hj, rfl⟩ := List.mem_iff_getElem.1 hb
    show m.boxes[j] ∈ m.boxes.take i ++ m.boxes.drop (i + 1)
    rw [← List.eraseIdx_eq_take_drop_succ, List.mem_eraseIdx_iff_getElem]
    exact ⟨j, hj, fun hji => by subst hji; exact hne (name_eq he), rfl⟩
  · have ht' : t ∈ m.boxes.take i ++ m.boxes.drop (i + 1) := ht
    rw [← List.eraseIdx_eq_take_drop_succ] at ht'
    exact List.mem_of_mem_eraseIdx ht'
theorem append_apart (m : Ml) (q : Rq) (o : Oc) (new : Prop) : Apart m (appendM m q o).2.1 q.box.data.toList new := by
  unfold appendM
  split
  · exact .same rfl
  rename_i i hf
  obtain ⟨hl, he, -⟩ := List.findIdx?_eq_some_iff_getElem.1 hf
  rw [List.getElem?_eq_getElem hl]
  dsimp only
  split
  · exact .same rfl
  split
  · exact .same rfl
  split
  · exact .same rfl
  split
  · exact .same rfl
  · exact .set hl _ rfl (name_eq he)
theorem store_apart (m : Ml) (q : Rq) (o : Oc) (new : Prop) : Apart m (storeM m q o).2.1 q.box.data.toList new := by
  unfold storeM
  split
  · exact .same rfl
  rename_i i hf
  obtain ⟨hl, he⟩ := named_lt hf
  rw [List.getElem?_eq_getElem hl]
  dsimp only
  split
  · exact .same rfl
  split
  · exact .same rfl
  split
  · exact .same rfl
  split
  · exact .same rfl
  · exact .set hl _ rfl he
theorem expunge_apart (m : Ml) (q : Rq) (o : Oc) (new : Prop) : Apart m (expungeM m q o).2.1 q.box.data.toList new := by
  unfold expungeM
  split
  · exact .same rfl
  rename_i i hf
  obtain ⟨hl, he⟩ := named_lt hf
  rw [List.getElem?_eq_getElem hl]
  dsimp only
  split
  · exact .same rfl
  split
  · exact .same rfl
  · exact .set hl _ rfl he
theorem copy_apart (m : Ml) (q : Rq) (o : Oc) (new : Prop) : Apart m (copyM m q o).2.1 q.to_.data.toList new := by
  unfold copyM
  split
  · exact .same rfl
  rename_i i hf
  obtain ⟨hl, -⟩ := named_lt hf
  rw [List.getElem?_eq_getElem hl]
  dsimp only
  split
  · exact .same rfl
  rename_i t ht
  obtain ⟨htl, hte, -⟩ := List.findIdx?_eq_some_iff_getElem.1 ht
  rw [List.getElem?_eq_getElem htl]
  dsimp only
  split
  · exact .same rfl
  split
  · exact .same rfl
  split
  · exact .same rfl
  · exact .set htl _ rfl (name_eq hte)
theorem does_apart (m : Ml) (q : Rq) : Apart m (doesM m q).2.1 (namedOf q).data.toList (q.op = 4) := by
  have hno : ∀ {n : Int}, q.op = n → n ≠ 9 → namedOf q = q.box := fun h1 h2 => by unfold namedOf; rw [if_neg (by omega)]
  unfold doesM
  by_cases h1 : q.op = 1
  · rw [if_pos h1]; exact open_apart ..
  rw [if_neg h1]
  by_cases h2 : q.op = 2
  · rw [if_pos h2]; exact .same rfl
  rw [if_neg h2]
  by_cases h3 : q.op = 3
  · rw [if_pos h3]; exact .same rfl
  rw [if_neg h3]
  by_cases h4 : q.op = 4
  · rw [if_pos h4, hno h4 (by decide)]; exact create_apart _ _ _ h4
  rw [if_neg h4]
  by_cases h5 : q.op = 5
  · rw [if_pos h5, hno h5 (by decide)]; exact remove_apart ..
  rw [if_neg h5]
  by_cases h6 : q.op = 6
  · rw [if_pos h6, hno h6 (by decide)]; exact append_apart ..
  rw [if_neg h6]
  by_cases h7 : q.op = 7
  · rw [if_pos h7, hno h7 (by decide)]; exact store_apart ..
  rw [if_neg h7]
  by_cases h8 : q.op = 8
  · rw [if_pos h8, hno h8 (by decide)]; exact expunge_apart ..
  rw [if_neg h8]
  by_cases h9 : q.op = 9
  · rw [if_pos h9, show namedOf q = q.to_ from if_pos h9]; exact copy_apart ..
  rw [if_neg h9]
  unfold sweepM
  split
  · exact .same rfl
  · exact .same rfl
theorem apply_apart (m : Ml) (q : Rq) : Apart m (applyM m q).1 (namedOf q).data.toList (q.op = 4) := by
  unfold applyM
  split
  · exact .same rfl
  split
  · rw [fin_fst]; exact does_apart m q
  split
  · exact .same rfl
  · split
    · exact .same rfl
    · rw [fin_fst]; exact does_apart (seatPut m _ _) q
theorem find_in {m : Ml} (h : RightP m) {b : Bx} (hb : b ∈ m.boxes) : findM m b.name = some b := by
  unfold findM
  cases hf : m.boxes.find? (fun x => x.name.toList == b.name.toList) with
  | none => exact absurd (List.find?_eq_none.1 hf b hb) (by simp)
  | some y =>
    have h1 := List.find?_some hf
    have hy := List.mem_of_find?_eq_some hf
    have e := name_eq h1
    obtain ⟨i, hi, rfl⟩ := List.mem_iff_getElem.1 hy
    obtain ⟨j, hj, rfl⟩ := List.mem_iff_getElem.1 hb
    rcases Nat.lt_trichotomy i j with h3 | h3 | h3
    · have := List.pairwise_iff_getElem.1 h.names i j hi hj h3
      unfold bxltB at this
      rw [e, bytes_sto.irr] at this; cases this
    · subst h3; rfl
    · have := List.pairwise_iff_getElem.1 h.names j i hj hi h3
      unfold bxltB at this
      rw [e, bytes_sto.irr] at this; cases this
theorem find_some {m : Ml} {n : ByteArray} : (findM m n).isSome = true ↔ ∃ b ∈ m.boxes, b.name = n := by
  unfold findM
  rw [List.find?_isSome]
  exact ⟨fun ⟨b, h1, h2⟩ => ⟨b, h1, toList_inj_ (eq_of_beq h2)⟩, fun ⟨b, h1, h2⟩ => ⟨b, h1, by rw [h2]; simp⟩⟩
/-- what MailApart asks of a mailbox that was there -/
theorem apart_old {m : Ml} (q : Rq) (h : RightP m) {b : Bx} (hb : b ∈ m.boxes) (hn : b.name ≠ namedOf q) : findM (applyM m q).1 b.name = some b :=
  find_in (apply_right q h) ((apply_apart m q).1 b hb (fun e => hn (toList_inj_ (by rw [ByteArray.toList_eq, ByteArray.toList_eq]; exact e))))
/-- .. and of one that is there -/
theorem apart_new {m : Ml} (q : Rq) {t : Bx} (ht : t ∈ (applyM m q).1.boxes) (hn : (findM m t.name).isSome = false) : t.name = namedOf q ∧ q.op = 4 := by
  rcases (apply_apart m q).2 t ht with h | ⟨h1, h2⟩
  · rw [find_some.2 h] at hn; cases hn
  · exact ⟨toList_inj_ (by rw [ByteArray.toList_eq, ByteArray.toList_eq]; exact h1), h2⟩
end Go.Proofs.YtcnebfmlelcliaaGreat
namespace Go.Proofs.YtcnebfmlelcliaaGreat
set_option linter.unusedSimpArgs false
open Go.RowKit

/-- a mailbox that has come of another one -/
structure EvoB (b t : Bx) : Prop where
  name : t.name = b.name
  val : t.validity = b.validity
  next : b.next ≤ t.next
  high : b.high ≤ t.high
  lets : ∀ x ∈ t.letters, (∃ z ∈ b.letters, z.uid = x.uid ∧ z.hash = x.hash) ∨ b.next ≤ x.uid
theorem EvoB.refl (b : Bx) : EvoB b b := ⟨rfl, rfl, Nat.le_refl _, Nat.le_refl _, fun x hx => .inl ⟨x, hx, rfl, rfl⟩⟩
/-- a state that has come of another one -/
structure Evo (m m' : Ml) : Prop where
  nv : m.nv ≤ m'.nv
  ns : m.ns ≤ m'.ns
  boxes : ∀ t ∈ m'.boxes, (∃ b ∈ m.boxes, EvoB b t) ∨ (m.nv ≤ t.validity ∧ ∀ b ∈ m.boxes, b.name ≠ t.name)
theorem Evo.same {m m' : Ml} (e : m'.boxes = m.boxes) (h1 : m.nv ≤ m'.nv) (h2 : m.ns ≤ m'.ns) : Evo m m' := ⟨h1, h2, fun t ht => .inl ⟨t, by rw [e] at ht; exact ht, .refl t⟩⟩
theorem Evo.refl (m : Ml) : Evo m m := .same rfl (Nat.le_refl _) (Nat.le_refl _)
theorem Evo.set {m : Ml} {i : Nat} (hi : i < m.boxes.length) {b : Bx} (hb : EvoB m.boxes[i] b) : Evo m (setM m i b) := by
  refine ⟨Nat.le_refl _, Nat.le_refl _, fun t ht => .inl ?_⟩
  rcases mem_set_out ht with h | rfl
  · exact ⟨t, h, .refl t⟩
  · exact ⟨m.boxes[i], List.getElem_mem hi, hb⟩
theorem open_evo (m : Ml) (q : Rq) (o : Oc) : Evo m (openM m q o).2.1 := by
  unfold openM
  split
  · exact .refl m
  split
  · exact .refl m
  split
  · split
    · exact .refl m
    · exact .refl m
  split
  · exact .refl m
  · unfold settleM
    split
    · exact .same rfl (Nat.le_refl _) (Nat.le_succ _)
    · exact .same rfl (Nat.le_refl _) (Nat.le_succ _)
theorem create_evo (m : Ml) (q : Rq) (o : Oc) : Evo m (createM m q o).2.1 := by
  unfold createM
  split
  · exact .refl m
  split
  · exact .refl m
  rename_i hno
  split
  · exact .refl m
  split
  · exact .refl m
  · refine ⟨Nat.le_succ _, Nat.le_refl _, fun t ht => ?_⟩
    rcases (mem_insS bxltB _ t m.boxes).1 ht with rfl | h
    · refine .inr ⟨Nat.le_refl _, fun b hb e => ?_⟩
      have := List.findIdx?_eq_none_iff.1 hno b hb
      dsimp only at e
      rw [e] at this
      simp at this
    · exact .inl ⟨t, h, .refl t⟩
theorem remove_evo (m : Ml) (q : Rq) (o : Oc) : Evo m (removeM m q o).2.1 := by
  unfold removeM
  split
  · exact .refl m
  split
  · exact .refl m
  rename_i i hf
  refine ⟨Nat.le_refl _, Nat.le_refl _, fun t ht => .inl ⟨t, ?_, .refl t⟩⟩
  have ht' : t ∈ m.boxes.take i ++ m.boxes.drop (i + 1) := ht
  rw [← List.eraseIdx_eq_take_drop_succ] at ht'
  exact List.mem_of_mem_eraseIdx ht'
theorem append_evo (m : Ml) (q : Rq) (o : Oc) : Evo m (appendM m q o).2.1 := by
  unfold appendM
  split
  · exact .refl m
  rename_i i hf
  obtain ⟨hl, he, -⟩ := List.findIdx?_eq_some_iff_getElem.1 hf
  rw [List.getElem?_eq_getElem hl]
  dsimp only
  split
  · exact .refl m
  split
  · exact .refl m
  split
  · exact .refl m
  split
  · exact .refl m
  · refine .set hl ⟨rfl, rfl, Nat.le_succ _, Nat.le_succ _, fun x hx => ?_⟩
    rcases List.mem_append.1 hx with hx | hx
    · exact .inl ⟨x, hx, rfl, rfl⟩
    · rw [List.mem_singleton.1 hx]; exact .inr (Nat.le_refl _)
theorem store_evo (m : Ml) (q : Rq) (o : Oc) : Evo m (storeM m q o).2.1 := by
  unfold storeM
  split
  · exact .refl m
  rename_i i hf
  obtain ⟨hl, he⟩ := named_lt hf
  rw [List.getElem?_eq_getElem hl]
  dsimp only
  split
  · exact .refl m
  split
  · exact .refl m
  split
  · exact .refl m
  split
  · exact .refl m
  · refine .set hl ⟨rfl, rfl, Nat.le_refl _, Nat.le_succ _, fun x hx => .inl ?_⟩
    obtain ⟨z, hz, rfl⟩ := List.mem_map.1 hx
    refine ⟨z, hz, ?_⟩
    unfold stNew
    split
    · exact ⟨rfl, rfl⟩
    · exact ⟨rfl, rfl⟩
theorem expunge_evo (m : Ml) (q : Rq) (o : Oc) : Evo m (expungeM m q o).2.1 := by
  unfold expungeM
  split
  · exact .refl m
  rename_i i hf
  obtain ⟨hl, he⟩ := named_lt hf
  rw [List.getElem?_eq_getElem hl]
  dsimp only
  split
  · exact .refl m
  split
  · exact .refl m
  · exact .set hl ⟨rfl, rfl, Nat.le_refl _, Nat.le_succ _, fun x hx => .inl ⟨x, (List.mem_filter.1 hx).1, rfl, rfl⟩⟩
theorem copy_evo (m : Ml) (q : Rq) (o : Oc) : Evo m (copyM m q o).2.1 := by
  unfold copyM
  split
  · exact .refl m
  rename_i i hf
  obtain ⟨hl, -⟩ := named_lt hf
  rw [List.getElem?_eq_getElem hl]
  dsimp only
  split
  · exact .refl m
  rename_i t ht
  obtain ⟨htl, hte, -⟩ := List.findIdx?_eq_some_iff_getElem.1 ht
  rw [List.getElem?_eq_getElem htl]
  dsimp only
  split
  · exact .refl m
  split
  · exact .refl m
  split
  · exact .refl m
  · refine .set htl ⟨rfl, rfl, Nat.le_add_right _ _, Nat.le_succ _, fun x hx => ?_⟩
    rcases List.mem_append.1 hx with hx | hx
    · exact .inl ⟨x, hx, rfl, rfl⟩
    · obtain ⟨_, _, _, h6, _⟩ := copyL_mem _ _ _ _ hx
      exact .inr h6
theorem does_evo (m : Ml) (q : Rq) : Evo m (doesM m q).2.1 := by
  unfold doesM
  split
  · exact open_evo ..
  split
  · exact .same rfl (Nat.le_refl _) (Nat.le_refl _)
  split
  · exact .refl m
  split
  · exact create_evo ..
  split
  · exact remove_evo ..
  split
  · exact append_evo ..
  split
  · exact store_evo ..
  split
  · exact expunge_evo ..
  split
  · exact copy_evo ..
  · unfold sweepM
    split
    · exact .refl m
    · exact .same rfl (Nat.le_refl _) (Nat.le_refl _)
theorem apply_evo (m : Ml) (q : Rq) : Evo m (applyM m q).1 := by
  unfold applyM
  split
  · exact .refl m
  split
  · rw [fin_fst]; exact does_evo m q
  split
  · exact .refl m
  · split
    · exact .refl m
    · rename_i i _ _
      rw [fin_fst]
      have h := does_evo (seatPut m i q.number) q
      exact ⟨h.nv, h.ns, h.boxes⟩
/-- one mailbox a name -/
theorem box_uniq {m : Ml} (h : RightP m) {a b : Bx} (ha : a ∈ m.boxes) (hb : b ∈ m.boxes) (e : a.name = b.name) : a = b := by
  have h1 := find_in h ha
  have h2 := find_in h hb
  rw [e, h2] at h1
  exact (Option.some.inj h1).symm
/-- one letter a number -/
theorem let_uniq {l : List Lt} (h : l.Pairwise (fun x y => x.uid < y.uid)) {x y : Lt} (hx : x ∈ l) (hy : y ∈ l) (e : x.uid = y.uid) : x = y := by
  obtain ⟨i, hi, rfl⟩ := List.mem_iff_getElem.1 hx
  obtain ⟨j, hj, rfl⟩ := List.mem_iff_getElem.1 hy
  have hp := List.pairwise_iff_getElem.1 h
  rcases Nat.lt_trichotomy i j with c | c | c
  · have := hp i j hi hj c; omega
  · subst c; rfl
  · have := hp j i hj hi c; omega
/-- what the law asks of a mailbox that was there -/
theorem evo_old {m : Ml} (q : Rq) (h : RightP m) {a t : Bx} (ha : a ∈ m.boxes) (ht : findM (applyM m q).1 a.name = some t) : t.validity = a.validity ∧ a.next ≤ t.next ∧ a.high ≤ t.high := by
  have hm : t ∈ (applyM m q).1.boxes := List.mem_of_find?_eq_some ht
  have hn : t.name = a.name := by
    unfold findM at ht
    have h1 := List.find?_some ht
    exact toList_inj_ (eq_of_beq h1)
  rcases (apply_evo m q).boxes t hm with ⟨b, hb, he⟩ | ⟨-, hno⟩
  · have := box_uniq h hb ha (he.name.symm.trans hn)
    subst this
    exact ⟨he.val, he.next, he.high⟩
  · exact absurd hn.symm (hno a ha)
end Go.Proofs.YtcnebfmlelcliaaGreat
namespace Go.Proofs.YtcnebfmlelcliaaGreat
open Go.RowKit

/-- the first row's number, from one on; 0: there is none -/
def seqN : List Rng → Nat → Nat
  | [], _ => 0
  | r :: l, uid => if r.1 = uid then 1 else match seqN l uid with
    | 0 => 0
    | n + 1 => n + 2
theorem seqN_none : ∀ {l : List Rng} {uid : Nat}, (∀ r ∈ l, r.1 ≠ uid) → seqN l uid = 0
  | [], _, _ => rfl
  | r :: l, uid, h => by
    have h1 : seqN l uid = 0 := seqN_none (fun x hx => h x (by simp [hx]))
    unfold seqN
    rw [if_neg (h r (by simp)), h1]
theorem seqN_at : ∀ {l : List Rng} {uid q : Nat} (hq : q < l.length), (∀ r ∈ l.take q, r.1 ≠ uid) → l[q].1 = uid → seqN l uid = q + 1
  | r :: l, uid, 0, _, _, h => by unfold seqN; rw [if_pos (by simpa using h)]
  | r :: l, uid, q + 1, hq, h1, h2 => by
    have h3 : seqN l uid = q + 1 := seqN_at (by simpa using hq) (fun x hx => h1 x (by simp [hx])) (by simpa using h2)
    unfold seqN
    rw [if_neg (h1 r (by simp)), h3]
theorem seqN_le : ∀ (l : List Rng) (uid : Nat), seqN l uid ≤ l.length
  | [], _ => Nat.le_refl _
  | r :: l, uid => by
    have := seqN_le l uid
    unfold seqN
    split
    · simp
    · split
      · simp
      · rename_i n h; rw [List.length_cons]; omega
theorem row_no {l : List Rng} {q uid : Nat} (hq : q < l.length) (h : ∀ r ∈ l.take q, r.1 ≠ uid) (h2 : l[q].1 ≠ uid) : ∀ r ∈ l.take (q + 1), r.1 ≠ uid := fun r hr => by
  rw [List.take_succ_eq_append_getElem hq, List.mem_append, List.mem_singleton] at hr
  rcases hr with hr | rfl
  · exact h r hr
  · exact h2
theorem rowAt {w : World} {v : Value} {l : List Rng} {B : Nat} (h : RangesIn w B v l) {k : Nat} (hk : k < l.length) : ∃ b o cap, v = .slice (some ⟨b, o, none⟩) l.length cap ∧ b < B ∧ ∀ j (hj : j < l.length), w.cell? ⟨b, o + j * 2, none⟩ = some (.int .u64 l[j].1) ∧ w.cell? ⟨b, o + j * 2 + 1, none⟩ = some (.int .u64 l[j].2) := by
  obtain ⟨ao, cap, rfl, h0 | ⟨b, o, rfl, hb, _, hc⟩⟩ := h
  · rw [h0] at hk; simp at hk
  · exact ⟨b, o, cap, rfl, hb, hc⟩
end Go.Proofs.YtcnebfmlelcliaaGreat
namespace Go.Proofs.YtcnebfmlelcliaaGreat
open Go.RowKit

def OwnW (w : World) (B : Nat) (v : Value) (rs : List Rng) : Prop := w.ownsRow B 46 2 v rs.length (rangesCells rs)
theorem OwnW.nil (w : World) (B : Nat) : OwnW w B (.slice none 0 0) [] := World.ownsRow_nil _ _ _ _
theorem OwnW.alloc {w : World} {B : Nat} {v : Value} {rs : List Rng} (h : OwnW w B v rs) (o : Obj) : OwnW (w.alloc o) B v rs := World.ownsRow.alloc h o
theorem OwnW.below {w w' : World} {B : Nat} {v : Value} {rs : List Rng} (h : OwnW w B v rs) (hb : Below w.heap.size w w') : OwnW w' B v rs :=
  World.ownsRow.kept (row := none) h ⟨hb.os, hb.tape, hb.output, hb.size, fun k hk _ => hb.block k hk⟩ (by cases hv : v.ownBlock <;> simp)
theorem OwnW.len {w : World} {B : Nat} {v : Value} {rs : List Rng} (h : OwnW w B v rs) : ∃ a c, v = .slice a rs.length c := by
  rcases h.2 with ⟨rfl, hn⟩ | ⟨g, cap, cur, rfl, _⟩
  · exact ⟨none, 0, by rw [hn]⟩
  · exact ⟨_, _, rfl⟩
theorem row_info : (Tryz.prog.info? 46).map (fun i => (i.zero, i.size, i.bytes)) = some (some (.agg #[.int .u64 0, .int .u64 0]), 2, 16) := by kernel_rfl
theorem OwnW.ranges {w : World} {B : Nat} {v : Value} {rs : List Rng} (h : OwnW w B v rs) : RangesIn w w.heap.size v rs := Rd.ranges (Rd.of_own h)
theorem OwnW.one (w : World) (x y : Nat) : OwnW (w.alloc (.cells #[.int .u64 x, .int .u64 y] 46)) w.heap.size (.slice (some ⟨w.heap.size, 0, none⟩) 1 1) [(x, y)] :=
  ⟨rfl, .inr ⟨w.heap.size, 1, _, rfl, Nat.le_refl _, heap_alloc_new w _, Nat.le_refl _, by unfold maxLen; omega, rfl, rfl⟩⟩
/-- 'append(v, u...)' of ranges -/
theorem wpList_append_rows {w : World} {ops : Array Oper} {rest : List Oper} {o : Oper} {a : Act} {Q : Exit → Act → World → Prop} (hgd : o.guard = none) (s x : Operand)
    (ho : o.op = .call { callee := .builtin .append, args := #[s, x], argTypes := #[36, 36] }) (B : Nat) (v v2 : Value) (l m : List Rng)
    (hs : a.eval s = v) (hx : a.eval x = v2) (hown : OwnW w B v l) (h2 : Rd w v2 m.length (rangesCells m)) (hlen : (l.length + m.length) * 16 ≤ 140737488355328) (hbase : B ≤ w.heap.size)
    (h : ∀ v' w', OwnW w' B v' (l ++ m) → Below B w w' → wpList Tryz.prog ops Q rest (a.put o.dst v') w') : wpList Tryz.prog ops Q (o :: rest) a w := by
  refine wpList_append_rd hgd s x 36 ho B 46 _ 2 16 Tryz.underlying36 row_info rfl (by decide) v v2 l.length m.length (rangesCells l) (rangesCells m) hs hx hown h2 (rangesCells_len m) (rangesCells_one m) (by unfold maxLen; omega) hlen hbase ?_
  intro v' w' ho' hg' _
  refine h v' w' ?_ ((Below.refl B w).grown hg' hbase (fun k hk => (World.ownsRow.lt hown k hk).1))
  unfold OwnW
  rw [List.length_append, rangesCells_app]
  exact ho'
/-- 'append(v, Range{x, y})' -/
theorem wpList_append_row {W : World} {ops : Array Oper} {rest : List Oper} {o : Oper} {a : Act} {Q : Exit → Act → World → Prop} (hgd : o.guard = none) (s x : Operand)
    (ho : o.op = .call { callee := .builtin .append, args := #[s, x], argTypes := #[36, 36] }) (B : Nat) (v : Value) (l : List Rng) (p q : Nat)
    (hs : a.eval s = v) (hx : a.eval x = .slice (some ⟨W.heap.size, 0, none⟩) 1 1) (hown : OwnW W B v l) (hlen : (l.length + 1) * 16 ≤ 140737488355328) (hbase : B ≤ W.heap.size)
    (h : ∀ v' w', OwnW w' B v' (l ++ [(p, q)]) → Below B W w' → wpList Tryz.prog ops Q rest (a.put o.dst v') w') :
    wpList Tryz.prog ops Q (o :: rest) a (W.alloc (.cells #[.int .u64 p, .int .u64 q] 46)) :=
  wpList_append_rows hgd s x ho B v _ l [(p, q)] hs hx (hown.alloc _) (Rd.of_own (OwnW.one W p q)) (by simpa using hlen) (by simp; omega) (fun v' w' ho' hb' => h v' w' ho' (((Below.refl B W).alloc hbase _).trans hb'))
theorem owns_emptyW (w : World) : OwnW (w.alloc (.cells #[] 46)) w.heap.size (.slice (some ⟨w.heap.size, 0, none⟩) 0 0) [] :=
  ⟨rfl, .inr ⟨w.heap.size, 0, #[], rfl, Nat.le_refl _, heap_alloc_new w _, Nat.le_refl _, by unfold maxLen; omega, rfl, rfl⟩⟩
set_option maxRecDepth 100000 in
set_option maxHeartbeats 2000000 in
theorem cloneRows_any (l : List Rng) (v : Value) (w : World) (hl : l.length ≤ 1000000) (hk : RangesIn w w.heap.size v l) :
    Calls Tryz.prog 23 #[v] w fun e w' => ∃ v', e = .returned v' ∧ Hid (OwnW w' w.heap.size v' l) ∧ Hid (Below w.heap.size w w') := by
  have hk0 := Lib.hid hk
  obtain ⟨ao, cap, rfl, h0⟩ := hk
  cases ao with
  | none =>
    have e : l = [] := by
      rcases h0 with h | ⟨b, o, h, _⟩
      · exact h
      · cases h
    subst e
    clear h0
    have he : ∀ W : World, (binOp .eql 36 (.slice none 0 cap) (.slice none 0 0)).run Tryz.prog W = .ok (.bool true) W := fun _ => rfl
    change Calls Tryz.prog 23 #[.slice none 0 cap] w _
    go_enter Tryz.func23, Tryz.ntmps23
    go_wp2_with fail
    go_ret
    exact ⟨_, rfl, Lib.hid (OwnW.nil _ _), Lib.hid (Below.refl _ _)⟩
  | some p =>
    clear h0
    have he : ∀ W : World, (binOp .eql 36 (.slice (some p) l.length cap) (.slice none 0 0)).run Tryz.prog W = .ok (.bool false) W := fun _ => rfl
    go_enter Tryz.func23, Tryz.ntmps23
    go_wp2_with (at_builtin; refine wpList_append_rows rfl (.tmp 5) (.tmp 6) rfl w.heap.size _ _ [] l rfl rfl (owns_emptyW w) ((hk0.out.on ((Below.refl _ _).alloc (Nat.le_refl _) _)).rd) (by simp; omega) (by simp) ?_)
    intro v3 w4 hown4 hb4
    have hb5 : Hid (Below w.heap.size w w4) := Lib.hid (((Below.refl w.heap.size w).alloc (Nat.le_refl _) (.cells #[] 46)).trans hb4)
    have hown5 : Hid (OwnW w4 w.heap.size v3 l) := Lib.hid hown4
    clear hown4 hb4
    go_wp2_with fail
    go_ret
    exact ⟨_, rfl, hown5, hb5⟩
set_option maxRecDepth 100000 in
set_option maxHeartbeats 4000000 in
theorem same22_any (s : ByteArray) (val : Nat) (l : List Rng) (va vb : Value) (w : World) (hl : l.length ≤ 1000000) (ha : RangesIn w w.heap.size va l) (hb : RangesIn w w.heap.size vb l) :
    Calls Tryz.prog 12 #[.agg #[.string s, .int .u64 val, va], .agg #[.string s, .int .u64 val, vb]] w fun e w' => e = .returned (.bool true) ∧ Hid (Below w.heap.size w w') := by
  obtain ⟨W1, hW1⟩ : ∃ W1, W1 = w.alloc (.cells #[.string s, .int .u64 val, va] 38) := ⟨_, rfl⟩
  obtain ⟨W2, hW2⟩ : ∃ W2, W2 = W1.alloc (.cells #[.string s, .int .u64 val, vb] 38) := ⟨_, rfl⟩
  have s1 : W1.heap.size = w.heap.size + 1 := by rw [hW1]; simp
  have b1 : Below w.heap.size w W1 := by rw [hW1]; exact (Below.refl _ w).alloc (Nat.le_refl _) _
  have b2 : Below W1.heap.size W1 W2 := by rw [hW2]; exact (Below.refl _ W1).alloc (Nat.le_refl _) _
  have bw : Below w.heap.size w W2 := b1.trans (b2.mono b1.size)
  have h1 : W2.heap[w.heap.size]? = some (.cells #[.string s, .int .u64 val, va] 38 (0, 0)) := heap_below (by rw [hW1]; exact cells_new w _ _) b2
  have h2 : W2.heap[w.heap.size + 1]? = some (.cells #[.string s, .int .u64 val, vb] 38 (0, 0)) := by rw [hW2, ← s1]; exact cells_new W1 _ _
  have ha0 := Lib.hid (ha.on bw)
  have hb0 := Lib.hid (hb.on bw)
  have L1 := (Array.getElem?_eq_some_iff.1 h1).1
  have L2 := (Array.getElem?_eq_some_iff.1 h2).1
  have hm : Hid (∀ W, Below W2.heap.size W2 W → W.cell? ⟨w.heap.size, 2, none⟩ = some va ∧ W.cell? ⟨w.heap.size + 1, 2, none⟩ = some vb) := Lib.hid (fun W hW => ⟨by rw [hW.cell (p := ⟨w.heap.size, 2, none⟩) L1, cell_at h1 2]; rfl, by rw [hW.cell (p := ⟨w.heap.size + 1, 2, none⟩) L2, cell_at h2 2]; rfl⟩)
  replace bw := Lib.hid bw
  obtain ⟨ao, cap, rfl, -⟩ := ha
  obtain ⟨ao2, cap2, rfl, -⟩ := hb
  clear h1 h2 L1 L2 b1 b2 s1
  rw [hW1] at hW2
  clear hW1 W1
  have hne : ((l.length : Int) != (l.length : Int)) = false := by simp
  go_enter Tryz.func12, Tryz.ntmps12
  go_wp2_with fail
  rw [← hW2]
  clear hW2
  go_loopw [5] (fun v5 wr => ∃ q : Nat, v5 = .int .i64 q ∧ q ≤ l.length ∧ Hid (Below W2.heap.size W2 wr)) (fun v5 _ => l.length - (intOf v5).toNat)
  case atStart => exact ⟨0, rfl, Nat.zero_le _, Lib.hid (Below.refl _ _)⟩
  case round =>
    obtain ⟨q, rfl, hq, hbl⟩ := hrel
    obtain ⟨m1, m2⟩ := hm.out _ hbl.out
    by_cases hlt : q < l.length
    · obtain ⟨b1, o1, p1, hv1, hB1, hcells1⟩ := rowAt (ha0.out.later hbl.out) hlt
      obtain ⟨b2, o2, p2, hv2, hB2, hcells2⟩ := rowAt (hb0.out.later hbl.out) hlt
      cases hv1
      cases hv2
      obtain ⟨c0, c1⟩ := hcells1 q hlt
      obtain ⟨d0, d1⟩ := hcells2 q hlt
      generalize l[q] = x at c0 c1 d0 d1
      obtain ⟨x0, x1⟩ := x
      dsimp only at c0 c1 d0 d1
      clear hcells1 hcells2
      have hbW := Lib.hid (fun m => below_drewN hbl.out m)
      have hi0 : (0 : Int) ≤ (q : Int) := by omega
      have hi1 : (q : Int) < (l.length : Int) := by omega
      go_wp2_with fail
      go_quiet (fail)
      go_wp2_with fail
      go_roundw
      case rel => exact ⟨q + 1, by go_num, by omega, Lib.hid (hbW.out _)⟩
      case measure => simp [intOf] <;> omega
    · obtain rfl : q = l.length := by omega
      have hB := Lib.hid (bw.out.trans (hbl.out.mono bw.out.size))
      go_wp2_with fail
      go_ret
      exact ⟨rfl, hB⟩
end Go.Proofs.YtcnebfmlelcliaaGreat
namespace Go.Proofs.YtcnebfmlelcliaaGreat
open Go.RowKit

theorem vcells_set {W : World} {g : Nat} {C : List Value} {t : TypeId} (h : W.heap[g]? = some (.cells C.toArray t (0, 0))) (j : Nat) (v : Value) : (W.setCell ⟨g, j, none⟩ v).heap[g]? = some (.cells (C.set j v).toArray t (0, 0)) := by
  simp only [World.setCell, Array.getElem?_modify, h, if_true, Option.map_some]
  rw [← List.setIfInBounds_toArray]
  rfl
theorem cell_nf {W : World} {b : Nat} {C : Array Value} {t : TypeId} (h : W.heap[b]? = some (.cells C t (0, 0))) (j : Nat) : W.frozen? ⟨b, j, none⟩ = false := by simp [World.frozen?, h]
theorem rangesCells_set : ∀ (l : List Rng) (j : Nat) (hj : j < l.length) (c : Nat), rangesCells (l.set j (l[j].1, c)) = (rangesCells l).set (j * 2 + 1) (.int .u64 c)
  | r :: l, 0, _, c => by simp [rangesCells, rngCells]
  | r :: l, j + 1, hj, c => by
    have h := rangesCells_set l j (by simpa using hj) c
    show rngCells r ++ rangesCells (l.set j _) = (rngCells r ++ rangesCells l).set _ _
    rw [List.set_append_right _ _ (by show 2 ≤ _; omega)]
    have e : (j + 1) * 2 + 1 - (rngCells r).length = j * 2 + 1 := by show (j + 1) * 2 + 1 - 2 = _; omega
    rw [e, ← h]
    rfl
theorem OwnW.at_ {w : World} {B : Nat} {v : Value} {l : List Rng} (h : OwnW w B v l) {j : Nat} (hj : j < l.length) :
    ∃ g cap, v = .slice (some ⟨g, 0, none⟩) l.length cap ∧ B ≤ g ∧ g < w.heap.size ∧ w.cell? ⟨g, j * 2 + 1, none⟩ = some (.int .u64 l[j].2) ∧ w.frozen? ⟨g, j * 2 + 1, none⟩ = false ∧ ∀ c : Nat, OwnW (w.setCell ⟨g, j * 2 + 1, none⟩ (.int .u64 c)) B v (l.set j (l[j].1, c)) := by
  rcases h.2 with ⟨_, h0⟩ | ⟨g, cap, cur, hv, hB, hg, hle, hm, hs, htk⟩
  · omega
  · have hri := rangesCells_len l
    have hsz : cur.size = cap * 2 := by omega
    refine ⟨g, cap, hv, hB, (Array.getElem?_eq_some_iff.1 hg).1, ?_, ?_, fun c => ⟨rangesCells_len _, .inr ⟨g, cap, cur.setIfInBounds (j * 2 + 1) (.int .u64 c), by rw [List.length_set]; exact hv, hB, ?_, by simpa using hle, hm, by simpa using hs, ?_⟩⟩⟩
    · have h1 : cur.toList[j * 2 + 1]? = (rangesCells l)[j * 2 + 1]? := by
        rw [← htk, List.getElem?_take_of_lt (by omega)]
      rw [rangesCells_get l j hj 1 (by omega)] at h1
      simp only [World.cell?, hg]
      rw [← Array.getElem?_toList, h1]
      rfl
    · simp [World.frozen?, hg]
    · simp only [World.setCell, Array.getElem?_modify, hg, if_true, Option.map_some]
      rfl
    · rw [List.length_set, Array.toList_setIfInBounds, List.take_set, htk, rangesCells_set l j hj c]
theorem OwnW.setOther {w : World} {B : Nat} {v : Value} {l : List Rng} (h : OwnW w B v l) {X j : Nat} (u : Value) (hX : X < B) : OwnW (w.setCell ⟨X, j, none⟩ u) B v l := by
  rcases h.2 with h0 | ⟨g, cap, cur, hv, hB, hg, r⟩
  · exact ⟨h.1, .inl h0⟩
  · exact ⟨h.1, .inr ⟨g, cap, cur, hv, hB, by rw [Below.heap_setCell _ _ _ _ (by show g ≠ X; omega)]; exact hg, r⟩⟩
theorem OwnW.low {w : World} {B B' : Nat} {v : Value} {l : List Rng} (h : OwnW w B v l) (hB : B' ≤ B) : OwnW w B' v l := by
  refine ⟨h.1, ?_⟩
  rcases h.2 with h2 | ⟨g, cap, cur, hv, hb, r⟩
  · exact .inl h2
  · exact .inr ⟨g, cap, cur, hv, Nat.le_trans hB hb, r⟩
theorem two_new (w : World) (o1 o2 : Obj) : ((w.alloc o1).alloc o2).heap[w.heap.size]? = some o1 ∧ ((w.alloc o1).alloc o2).heap[w.heap.size + 1]? = some o2 := by
  have e : (w.alloc o1).heap.size = w.heap.size + 1 := by simp
  refine ⟨heap_below (heap_alloc_new w _) ((Below.refl _ _).alloc (Nat.le_refl _) _), ?_⟩
  rw [← e]; exact heap_alloc_new _ _
def tellL (l : List Rng) (uid mod : Nat) : List Rng := match seqN l uid with
  | 0 => l
  | n + 1 => l.set n ((l.getD n (0, 0)).1, mod)
end Go.Proofs.YtcnebfmlelcliaaGreat
namespace Go.Proofs.YtcnebfmlelcliaaGreat
open Go.RowKit

def mostL (l : List Rng) : Nat := l.foldl (fun m r => max m r.1) 0
theorem mostL_step {l : List Rng} {k : Nat} (h : k < l.length) : mostL (l.take (k + 1)) = max (mostL (l.take k)) l[k].1 := by
  unfold mostL
  rw [List.take_succ_eq_append_getElem h, List.foldl_append]; rfl
set_option maxRecDepth 100000 in
set_option maxHeartbeats 2000000 in
theorem greatest_any (s : ByteArray) (val : Nat) (l : List Rng) (v : Value) (w : World) (hl : l.length ≤ 1000000) (hk : RangesIn w w.heap.size v l) :
    Calls Tryz.prog 25 #[.agg #[.string s, .int .u64 val, v]] w fun e w' => e = .returned (.int .u64 (mostL l : Nat)) ∧ Hid (Below w.heap.size w w') := by
  have hk0 := Lib.hid hk
  obtain ⟨ao, cap, rfl, _⟩ := hk
  go_enter Tryz.func25, Tryz.ntmps25
  go_wp2_with fail
  go_loopw [3, 9] (fun v3 v9 wr => ∃ q : Nat, v9 = .int .i64 q ∧ q ≤ l.length ∧ v3 = .int .u64 (mostL (l.take q) : Nat) ∧ Hid (Below w.heap.size w wr)) (fun _ v9 _ => l.length - (intOf v9).toNat)
  case atStart => exact ⟨0, rfl, Nat.zero_le _, rfl, Lib.hid ((Below.refl _ _).alloc (Nat.le_refl _) _)⟩
  case round =>
    obtain ⟨q, rfl, hq, rfl, hb⟩ := hrel
    by_cases hlt : q < l.length
    · obtain ⟨b, o, cap', hv, hbB, hcells⟩ := rowAt (hk0.out.later hb.out) hlt
      injection hv with q1 q2 q3
      subst q1 q3
      obtain ⟨c0, c1⟩ := hcells q hlt
      have hl1 : (q : Int) < (l.length : Int) := by omega
      have hst := Lib.hid (mostL_step hlt)
      generalize l[q] = k at c0 c1 hst
      obtain ⟨f, t⟩ := k
      dsimp only at c0 c1
      generalize mostL (l.take q) = m at hst ⊢
      have hb2 := Lib.hid (hb.out.alloc hb.out.size (.cells #[.int .u64 f, .int .u64 t] 46))
      clear hcells
      go_wp2_with fail
      go_roundw
      case rel => exact ⟨q + 1, by go_num, by omega, by rw [hst.out]; dsimp only; congr 1; omega, hb2⟩
      case measure => simp [intOf] <;> omega
    · obtain rfl : q = l.length := by omega
      rw [List.take_length]
      go_wp2_with fail
      go_ret
      exact ⟨rfl, hb⟩
end Go.Proofs.YtcnebfmlelcliaaGreat
