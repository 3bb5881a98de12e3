/- image's read at texts, letters, mailboxes, homes, seats: walked. (written by tools/gen_ImH.py) -/
import Derived.Test.YtpkaoiadjffjiaaGreatB14
import Derived.Test.YtpkaoiadjffjiaaGreatB15
import Derived.Test.YtpkaoiadjffjiaaGreatB02
import Derived.Laws.EntriesVeiled
namespace Go.Proofs.YtpkaoiadjffjiaaGreat
set_option linter.unusedSimpArgs false
open Go.RowKit
attribute [local go_sem ↓] Go.wp_at_zero Go.wp_at_succ

section
variable {α β : Type} {R : RT α} {ok : World → α → Prop} {Rb : Nat} {We w : World} {v : Value} {rows : List α}
/-- rows that a reading call has made: a row of its own, what the things in it own, and all else as it was but the reader -/
structure RdRow (R : RT α) (ok : World → α → Prop) (Rb : Nat) (We w : World) (v : Value) (rows : List α) : Prop where
  own : R.Own w v rows
  low : ∀ g, v.ownBlock = some g → We.heap.size ≤ g
  stay : Stay (fun k => We.heap.size ≤ k ∧ v.ownBlock ≠ some k) w (fun W => ∀ y ∈ rows, ok W y)
  kp : Kp Rb We w
theorem RdRow.nil (h : Kp Rb We w) : RdRow R ok Rb We w (.slice none 0 0) [] := ⟨RT.Own.nil R w, fun g hg => (by cases hg), fun _ _ y hy => (by cases hy), h⟩
theorem RdRow.own3 (h : RdRow R ok Rb We w v rows) {w3 : World} (hk : Kp Rb w w3) (hR : Rb < We.heap.size) : R.Own w3 v rows :=
  h.own.block (fun g hg => hk.block g (h.own.lt hg) (by have := h.low g hg; omega))
theorem RdRow.step (h : RdRow R ok Rb We w v rows) {w3 w8 : World} (hk : Kp Rb w w3) (hR : Rb < We.heap.size) {y : α} (hy : Stay (fun k => w.heap.size ≤ k) w3 (fun W => ok W y)) {o : Obj} {v8 : Value}
    (ho8 : R.Own w8 v8 (rows ++ [y])) (hg : (w3.alloc o).grownBy w8 v.ownBlock) (hat : ∀ g, v8.ownBlock = some g → v.ownBlock = some g ∨ w3.heap.size + 1 ≤ g) :
    RdRow R ok Rb We w8 v8 (rows ++ [y]) ∧ ∀ s p, RdrAt w3 Rb s p → RdrAt w8 Rb s p := by
  have hs3 : (w3.alloc o).heap.size = w3.heap.size + 1 := by simp
  have hkeep : ∀ k, k < w3.heap.size → v.ownBlock ≠ some k → w8.heap[k]? = w3.heap[k]? := fun k hk3 hne => by
    have h1 := hg.block k (by omega) (fun e => hne e.symm)
    rw [h1]
    exact ((Below.refl _ w3).alloc (Nat.le_refl _) o).block k hk3
  have hsz : w3.heap.size ≤ w8.heap.size := by have := hg.size; omega
  have hne8 : ∀ k, k < w3.heap.size → v.ownBlock ≠ some k → v8.ownBlock ≠ some k := fun k hk3 hne e => by
    rcases hat k e with h1 | h1
    · exact hne h1
    · omega
  have hnR : v.ownBlock ≠ some Rb := fun e => by have := h.low Rb e; omega
  refine ⟨⟨ho8, fun g hg8 => ?_, fun W' hW' y' hy' => ?_, ?_⟩, fun s p hp => ?_⟩
  · rcases hat g hg8 with h1 | h1
    · exact h.low g h1
    · have := h.kp.size; have := hk.size; omega
  · rcases List.mem_append.1 hy' with hy' | hy'
    · refine h.stay W' (fun k hk1 hk2 => ?_) y' hy'
      have hk3 : k < w3.heap.size := by have := hk.size; omega
      rw [hW' k ⟨hk1.1, hne8 k hk3 hk1.2⟩ (by omega), hkeep k hk3 hk1.2]
      exact hk.block k hk2 (by have := hk1.1; omega)
    · obtain rfl := List.mem_singleton.1 hy'
      refine hy W' (fun k hk1 hk3 => ?_)
      have hnk : v.ownBlock ≠ some k := fun e => by have := h.own.lt e; omega
      rw [hW' k ⟨by have := h.kp.size; omega, hne8 k hk3 hnk⟩ (by omega), hkeep k hk3 hnk]
  · have a1 := ((Below.refl _ w3).alloc (Nat.le_refl _) o)
    have k3 := h.kp.trans hk
    refine ⟨hg.os.trans (a1.os.trans k3.os), hg.tape.trans (a1.tape.trans k3.tape), hg.output.trans (a1.output.trans k3.output), Nat.le_trans k3.size hsz, fun j hj hjR => ?_⟩
    have hj3 : j < w3.heap.size := Nat.lt_of_lt_of_le hj k3.size
    rw [hkeep j hj3 (fun e => by have := h.low j e; omega)]
    exact k3.block j hj hjR
  · obtain ⟨a, e, h1, h2⟩ := hp
    exact ⟨a, e, (hkeep Rb (Array.getElem?_eq_some_iff.1 h1).1 hnR).trans h1, h2⟩
/-- what a row reads in whatever keeps what is new -/
def RowStay (R : RT α) (ok : World → α → Prop) (B : Nat) (w : World) (v : Value) (rows : List α) : Prop := Stay (fun k => B ≤ k) w (fun W => Rd W v rows.length (R.cells rows) ∧ ∀ y ∈ rows, ok W y)
theorem RdRow.fin (h : RdRow R ok Rb We w v rows) : RowStay R ok We.heap.size w v rows := fun W' hW' =>
  ⟨(h.own.block (fun g hg => hW' g (h.low g hg) (h.own.lt hg))).rd, h.stay W' (fun k hk1 hk2 => hW' k hk1.1 hk2)⟩
/-- what a closure that reads one thing does -/
def OneRet (val : α → Value) (dat : α → β) (ok : World → α → Prop) (Rb : Nat) (s : ByteArray) (p : β × PS) (w : World) (e : Ending) (w' : World) : Prop :=
  ∃ y : α, e = .returned (val y) ∧ Hid (dat y = p.1) ∧ Hid (Kp Rb w w') ∧ Hid (RdrAt w' Rb s p.2) ∧ Hid (Stay (fun k => w.heap.size ≤ k) w' (fun W => ok W y))
def ReadRet (R : RT α) (dat : α → β) (ok : World → α → Prop) (Rb : Nat) (s : ByteArray) (p : List β × PS) (w : World) (e : Ending) (w' : World) : Prop :=
  ∃ (v : Value) (rows : List α), e = .returned v ∧ Hid (rows.map dat = p.1) ∧ Hid (Kp Rb w w') ∧ Hid (RdrAt w' Rb s p.2) ∧ Hid (RowStay R ok w.heap.size w' v rows)
end
theorem rMany_succ {α : Type} (one : PS → α × PS) (k : Nat) (s : PS) : rMany one (k + 1) s = ((rMany one k s).1 ++ [(one (rMany one k s).2).1], (one (rMany one k s).2).2) := rfl
theorem rNum_le (most : Nat) (o : PS) : (rNum most o).1 ≤ most := by
  unfold rNum
  split
  · split
    · assumption
    · exact Nat.zero_le _
  · exact Nat.zero_le _
set_option maxRecDepth 100000 in
set_option maxHeartbeats 8000000 in
theorem read_strs_any (Rb RC : Nat) (s : ByteArray) (hs : s.size ≤ 1000000000000) (one : PS → List UInt8 × PS) (most : Nat) (hm : most ≤ 1000) (o : PS) (We : World) (hro : RdrAt We Rb s o)
    (hone : ∀ w p, Kp Rb We w → RdrAt w Rb s p → Calls Tryz.prog 26 #[.pointer (some ⟨RC, 0, none⟩)] w (OneRet (α := List UInt8) (fun y => .string (mkB y)) (fun y => y) (fun _ _ => True) Rb s (one p) w)) :
    Calls Tryz.prog 25 #[.pointer (some ⟨Rb, 0, none⟩), .int .i64 most, .func (.func 26) #[] #[.pointer (some ⟨RC, 0, none⟩)]] We (ReadRet (α := List UInt8) flT (fun y => y) (fun _ _ => True) Rb s (rList most one o) We) := by
  have hRb := hro.lt
  have hcnt := Lib.hid (countR_any s hs Rb o most hm We hro)
  have hle := rNum_le most o
  unfold rList
  obtain ⟨⟨n, o0⟩, hn⟩ : ∃ p, rNum most o = p := ⟨_, rfl⟩
  rw [hn] at hcnt hle ⊢
  dsimp only at hcnt hle ⊢
  replace hone := Lib.hid hone
  clear hro hn
  go_enter Tryz.func25, Tryz.ntmps25
  go_wp2_with fail
  refine hcnt.out.mono ?_
  rintro e w1 ⟨rfl, hk1, hr1⟩
  have hrow0 : Hid (RdRow (α := List UInt8) flT (fun _ _ => True) Rb We w1 (.slice none 0 0) []) := Lib.hid (RdRow.nil hk1.out)
  clear hcnt
  go_wp2_with fail
  go_loopw [7, 11] (fun v7 v11 wr => ∃ (q : Nat) (rows : List (List UInt8)), v11 = .int .i64 q ∧ q ≤ n ∧ Hid (rows.length = q) ∧ Hid (rows.map (fun y => y) = (rMany one q o0).1) ∧ Hid (RdrAt wr Rb s (rMany one q o0).2) ∧ Hid (RdRow (α := List UInt8) flT (fun _ _ => True) Rb We wr v7 rows)) (fun _ v11 _ => n - (intOf v11).toNat)
  case atStart => exact ⟨0, [], rfl, Nat.zero_le _, Lib.hid rfl, Lib.hid rfl, hr1, hrow0⟩
  case round =>
  obtain ⟨q, rows, rfl, hq, hln, hmp, hrd, hrow⟩ := hrel
  clear hr1 hk1 hrow0
  by_cases hlt : q < n
  · have hl1 : (q : Int) < (n : Int) := by omega
    have hcall := Lib.hid (hone.out wr _ hrow.out.kp hrd.out)
    have hmp2 : Hid ((rMany one (q + 1) o0).1 = rows.map (fun y => y) ++ [(one (rMany one q o0).2).1] ∧ (rMany one (q + 1) o0).2 = (one (rMany one q o0).2).2) := Lib.hid ⟨by rw [rMany_succ, hmp.out], by rw [rMany_succ]⟩
    generalize one (rMany one q o0).2 = p2 at hcall hmp2
    go_wp2_with fail
    refine hcall.out.mono ?_
    rintro e w3 ⟨y, rfl, hy, hk3, hr3, hst3⟩
    dsimp only at hy hst3 ⊢
    have hown3 := Lib.hid ((hrow.out.own3 hk3.out hRb).below ((Below.refl _ w3).alloc (Nat.le_refl _) (.cells (flT.enc y).toArray 9)))
    have hnew := Lib.hid (RT.Own.one flT w3 y w3.heap.size rfl).rd
    clear hcall
    go_wp2_with (at_builtin; go_loud (refine flT.wpList_append rfl (.tmp 13) (.tmp 16) rfl _ _ rows [y] rfl rfl hown3.out hnew.out (by rw [List.length_singleton, hln.out]; omega) ?_))
    intro v8 w8 ho8 hg8 hat8
    have hst := hrow.out.step hk3.out hRb hst3.out ho8 hg8 hat8
    have hrow8 := Lib.hid hst.1
    have hr8 := Lib.hid (hst.2 _ _ hr3.out)
    have hln8 : Hid ((rows ++ [y]).length = q + 1) := Lib.hid (by rw [List.length_append, List.length_singleton, hln.out])
    have hmp8 : Hid ((rows ++ [y]).map (fun y => y) = (rMany one (q + 1) o0).1) := Lib.hid (by rw [hmp2.out.1, List.map_append, ← hy.out]; rfl)
    have hr9 : Hid (RdrAt w8 Rb s (rMany one (q + 1) o0).2) := Lib.hid (by rw [hmp2.out.2]; exact hr8.out)
    clear hst ho8 hg8 hat8 hown3 hnew hk3 hr3 hst3 hrow hrd hmp hmp2 hln hy hr8
    go_wp2_with fail
    go_roundw
    case rel => exact ⟨q + 1, _, by go_num, by omega, hln8, hmp8, hr9, hrow8⟩
    case measure => simp [intOf] <;> omega
  · obtain rfl : q = n := by omega
    go_wp2_with fail
    go_ret
    exact ⟨_, rows, rfl, hmp, Lib.hid hrow.out.kp, hrd, Lib.hid hrow.out.fin⟩
set_option maxRecDepth 100000 in
set_option maxHeartbeats 8000000 in
theorem read_letters_any (Rb RC : Nat) (s : ByteArray) (hs : s.size ≤ 1000000000000) (one : PS → Lt × PS) (most : Nat) (hm : most ≤ 1000) (o : PS) (We : World) (hro : RdrAt We Rb s o)
    (hone : ∀ w p, Kp Rb We w → RdrAt w Rb s p → Calls Tryz.prog 22 #[.pointer (some ⟨RC, 0, none⟩)] w (OneRet (α := LtV) (fun y => .agg #[.int .u64 y.x.uid, .slice y.a y.x.flags.length y.c, .int .u64 y.x.mod, .string y.x.hash, .int .u64 y.x.size]) (LtV.x) (fun W y => FlIn W y.v y.x.flags) Rb s (one p) w)) :
    Calls Tryz.prog 28 #[.pointer (some ⟨Rb, 0, none⟩), .int .i64 most, .func (.func 22) #[] #[.pointer (some ⟨RC, 0, none⟩)]] We (ReadRet (α := LtV) ltT (LtV.x) (fun W y => FlIn W y.v y.x.flags) Rb s (rList most one o) We) := by
  have hRb := hro.lt
  have hcnt := Lib.hid (countR_any s hs Rb o most hm We hro)
  have hle := rNum_le most o
  unfold rList
  obtain ⟨⟨n, o0⟩, hn⟩ : ∃ p, rNum most o = p := ⟨_, rfl⟩
  rw [hn] at hcnt hle ⊢
  dsimp only at hcnt hle ⊢
  replace hone := Lib.hid hone
  clear hro hn
  go_enter Tryz.func28, Tryz.ntmps28
  go_wp2_with fail
  refine hcnt.out.mono ?_
  rintro e w1 ⟨rfl, hk1, hr1⟩
  have hrow0 : Hid (RdRow (α := LtV) ltT (fun W y => FlIn W y.v y.x.flags) Rb We w1 (.slice none 0 0) []) := Lib.hid (RdRow.nil hk1.out)
  clear hcnt
  go_wp2_with fail
  go_loopw [7, 11] (fun v7 v11 wr => ∃ (q : Nat) (rows : List (LtV)), v11 = .int .i64 q ∧ q ≤ n ∧ Hid (rows.length = q) ∧ Hid (rows.map (LtV.x) = (rMany one q o0).1) ∧ Hid (RdrAt wr Rb s (rMany one q o0).2) ∧ Hid (RdRow (α := LtV) ltT (fun W y => FlIn W y.v y.x.flags) Rb We wr v7 rows)) (fun _ v11 _ => n - (intOf v11).toNat)
  case atStart => exact ⟨0, [], rfl, Nat.zero_le _, Lib.hid rfl, Lib.hid rfl, hr1, hrow0⟩
  case round =>
  obtain ⟨q, rows, rfl, hq, hln, hmp, hrd, hrow⟩ := hrel
  clear hr1 hk1 hrow0
  by_cases hlt : q < n
  · have hl1 : (q : Int) < (n : Int) := by omega
    have hcall := Lib.hid (hone.out wr _ hrow.out.kp hrd.out)
    have hmp2 : Hid ((rMany one (q + 1) o0).1 = rows.map (LtV.x) ++ [(one (rMany one q o0).2).1] ∧ (rMany one (q + 1) o0).2 = (one (rMany one q o0).2).2) := Lib.hid ⟨by rw [rMany_succ, hmp.out], by rw [rMany_succ]⟩
    generalize one (rMany one q o0).2 = p2 at hcall hmp2
    go_wp2_with fail
    refine hcall.out.mono ?_
    rintro e w3 ⟨y, rfl, hy, hk3, hr3, hst3⟩
    dsimp only at hy hst3 ⊢
    have hown3 := Lib.hid ((hrow.out.own3 hk3.out hRb).below ((Below.refl _ w3).alloc (Nat.le_refl _) (.cells (ltT.enc y).toArray 45)))
    have hnew := Lib.hid (RT.Own.one ltT w3 y w3.heap.size rfl).rd
    clear hcall
    go_wp2_with (at_builtin; go_loud (refine ltT.wpList_append rfl (.tmp 13) (.tmp 16) rfl _ _ rows [y] rfl rfl hown3.out hnew.out (by rw [List.length_singleton, hln.out]; omega) ?_))
    intro v8 w8 ho8 hg8 hat8
    have hst := hrow.out.step hk3.out hRb hst3.out ho8 hg8 hat8
    have hrow8 := Lib.hid hst.1
    have hr8 := Lib.hid (hst.2 _ _ hr3.out)
    have hln8 : Hid ((rows ++ [y]).length = q + 1) := Lib.hid (by rw [List.length_append, List.length_singleton, hln.out])
    have hmp8 : Hid ((rows ++ [y]).map (LtV.x) = (rMany one (q + 1) o0).1) := Lib.hid (by rw [hmp2.out.1, List.map_append, ← hy.out]; rfl)
    have hr9 : Hid (RdrAt w8 Rb s (rMany one (q + 1) o0).2) := Lib.hid (by rw [hmp2.out.2]; exact hr8.out)
    clear hst ho8 hg8 hat8 hown3 hnew hk3 hr3 hst3 hrow hrd hmp hmp2 hln hy hr8
    go_wp2_with fail
    go_roundw
    case rel => exact ⟨q + 1, _, by go_num, by omega, hln8, hmp8, hr9, hrow8⟩
    case measure => simp [intOf] <;> omega
  · obtain rfl : q = n := by omega
    go_wp2_with fail
    go_ret
    exact ⟨_, rows, rfl, hmp, Lib.hid hrow.out.kp, hrd, Lib.hid hrow.out.fin⟩
set_option maxRecDepth 100000 in
set_option maxHeartbeats 8000000 in
theorem read_boxes_any (Rb RC LC : Nat) (s : ByteArray) (hs : s.size ≤ 1000000000000) (one : PS → Bx × PS) (most : Nat) (hm : most ≤ 1000) (o : PS) (We : World) (hro : RdrAt We Rb s o)
    (hone : ∀ w p, Kp Rb We w → RdrAt w Rb s p → Calls Tryz.prog 27 #[.pointer (some ⟨RC, 0, none⟩), .pointer (some ⟨LC, 0, none⟩)] w (OneRet (α := BxV) (fun y => .agg #[.string y.name, .int .u64 y.validity, .int .u64 y.next, .int .u64 y.high, .slice y.a y.rows.length y.c]) (BxV.b) (fun W y => LtsIn W y.v y.rows) Rb s (one p) w)) :
    Calls Tryz.prog 29 #[.pointer (some ⟨Rb, 0, none⟩), .int .i64 most, .func (.func 27) #[] #[.pointer (some ⟨RC, 0, none⟩), .pointer (some ⟨LC, 0, none⟩)]] We (ReadRet (α := BxV) bxT (BxV.b) (fun W y => LtsIn W y.v y.rows) Rb s (rList most one o) We) := by
  have hRb := hro.lt
  have hcnt := Lib.hid (countR_any s hs Rb o most hm We hro)
  have hle := rNum_le most o
  unfold rList
  obtain ⟨⟨n, o0⟩, hn⟩ : ∃ p, rNum most o = p := ⟨_, rfl⟩
  rw [hn] at hcnt hle ⊢
  dsimp only at hcnt hle ⊢
  replace hone := Lib.hid hone
  clear hro hn
  go_enter Tryz.func29, Tryz.ntmps29
  go_wp2_with fail
  refine hcnt.out.mono ?_
  rintro e w1 ⟨rfl, hk1, hr1⟩
  have hrow0 : Hid (RdRow (α := BxV) bxT (fun W y => LtsIn W y.v y.rows) Rb We w1 (.slice none 0 0) []) := Lib.hid (RdRow.nil hk1.out)
  clear hcnt
  go_wp2_with fail
  go_loopw [7, 11] (fun v7 v11 wr => ∃ (q : Nat) (rows : List (BxV)), v11 = .int .i64 q ∧ q ≤ n ∧ Hid (rows.length = q) ∧ Hid (rows.map (BxV.b) = (rMany one q o0).1) ∧ Hid (RdrAt wr Rb s (rMany one q o0).2) ∧ Hid (RdRow (α := BxV) bxT (fun W y => LtsIn W y.v y.rows) Rb We wr v7 rows)) (fun _ v11 _ => n - (intOf v11).toNat)
  case atStart => exact ⟨0, [], rfl, Nat.zero_le _, Lib.hid rfl, Lib.hid rfl, hr1, hrow0⟩
  case round =>
  obtain ⟨q, rows, rfl, hq, hln, hmp, hrd, hrow⟩ := hrel
  clear hr1 hk1 hrow0
  by_cases hlt : q < n
  · have hl1 : (q : Int) < (n : Int) := by omega
    have hcall := Lib.hid (hone.out wr _ hrow.out.kp hrd.out)
    have hmp2 : Hid ((rMany one (q + 1) o0).1 = rows.map (BxV.b) ++ [(one (rMany one q o0).2).1] ∧ (rMany one (q + 1) o0).2 = (one (rMany one q o0).2).2) := Lib.hid ⟨by rw [rMany_succ, hmp.out], by rw [rMany_succ]⟩
    generalize one (rMany one q o0).2 = p2 at hcall hmp2
    go_wp2_with fail
    refine hcall.out.mono ?_
    rintro e w3 ⟨y, rfl, hy, hk3, hr3, hst3⟩
    dsimp only at hy hst3 ⊢
    have hown3 := Lib.hid ((hrow.out.own3 hk3.out hRb).below ((Below.refl _ w3).alloc (Nat.le_refl _) (.cells (bxT.enc y).toArray 40)))
    have hnew := Lib.hid (RT.Own.one bxT w3 y w3.heap.size rfl).rd
    clear hcall
    go_wp2_with (at_builtin; go_loud (refine bxT.wpList_append rfl (.tmp 13) (.tmp 16) rfl _ _ rows [y] rfl rfl hown3.out hnew.out (by rw [List.length_singleton, hln.out]; omega) ?_))
    intro v8 w8 ho8 hg8 hat8
    have hst := hrow.out.step hk3.out hRb hst3.out ho8 hg8 hat8
    have hrow8 := Lib.hid hst.1
    have hr8 := Lib.hid (hst.2 _ _ hr3.out)
    have hln8 : Hid ((rows ++ [y]).length = q + 1) := Lib.hid (by rw [List.length_append, List.length_singleton, hln.out])
    have hmp8 : Hid ((rows ++ [y]).map (BxV.b) = (rMany one (q + 1) o0).1) := Lib.hid (by rw [hmp2.out.1, List.map_append, ← hy.out]; rfl)
    have hr9 : Hid (RdrAt w8 Rb s (rMany one (q + 1) o0).2) := Lib.hid (by rw [hmp2.out.2]; exact hr8.out)
    clear hst ho8 hg8 hat8 hown3 hnew hk3 hr3 hst3 hrow hrd hmp hmp2 hln hy hr8
    go_wp2_with fail
    go_roundw
    case rel => exact ⟨q + 1, _, by go_num, by omega, hln8, hmp8, hr9, hrow8⟩
    case measure => simp [intOf] <;> omega
  · obtain rfl : q = n := by omega
    go_wp2_with fail
    go_ret
    exact ⟨_, rows, rfl, hmp, Lib.hid hrow.out.kp, hrd, Lib.hid hrow.out.fin⟩
set_option maxRecDepth 100000 in
set_option maxHeartbeats 8000000 in
theorem read_homes_any (Rb RC : Nat) (s : ByteArray) (hs : s.size ≤ 1000000000000) (one : PS → Hm × PS) (most : Nat) (hm : most ≤ 1000) (o : PS) (We : World) (hro : RdrAt We Rb s o)
    (hone : ∀ w p, Kp Rb We w → RdrAt w Rb s p → Calls Tryz.prog 31 #[.pointer (some ⟨RC, 0, none⟩)] w (OneRet (α := Hm) (fun y => .agg #[.int .i64 y.node, .int .u64 y.life, .int .u64 y.try_]) (fun y => y) (fun _ _ => True) Rb s (one p) w)) :
    Calls Tryz.prog 30 #[.pointer (some ⟨Rb, 0, none⟩), .int .i64 most, .func (.func 31) #[] #[.pointer (some ⟨RC, 0, none⟩)]] We (ReadRet (α := Hm) hmT (fun y => y) (fun _ _ => True) Rb s (rList most one o) We) := by
  have hRb := hro.lt
  have hcnt := Lib.hid (countR_any s hs Rb o most hm We hro)
  have hle := rNum_le most o
  unfold rList
  obtain ⟨⟨n, o0⟩, hn⟩ : ∃ p, rNum most o = p := ⟨_, rfl⟩
  rw [hn] at hcnt hle ⊢
  dsimp only at hcnt hle ⊢
  replace hone := Lib.hid hone
  clear hro hn
  go_enter Tryz.func30, Tryz.ntmps30
  go_wp2_with fail
  refine hcnt.out.mono ?_
  rintro e w1 ⟨rfl, hk1, hr1⟩
  have hrow0 : Hid (RdRow (α := Hm) hmT (fun _ _ => True) Rb We w1 (.slice none 0 0) []) := Lib.hid (RdRow.nil hk1.out)
  clear hcnt
  go_wp2_with fail
  go_loopw [7, 11] (fun v7 v11 wr => ∃ (q : Nat) (rows : List (Hm)), v11 = .int .i64 q ∧ q ≤ n ∧ Hid (rows.length = q) ∧ Hid (rows.map (fun y => y) = (rMany one q o0).1) ∧ Hid (RdrAt wr Rb s (rMany one q o0).2) ∧ Hid (RdRow (α := Hm) hmT (fun _ _ => True) Rb We wr v7 rows)) (fun _ v11 _ => n - (intOf v11).toNat)
  case atStart => exact ⟨0, [], rfl, Nat.zero_le _, Lib.hid rfl, Lib.hid rfl, hr1, hrow0⟩
  case round =>
  obtain ⟨q, rows, rfl, hq, hln, hmp, hrd, hrow⟩ := hrel
  clear hr1 hk1 hrow0
  by_cases hlt : q < n
  · have hl1 : (q : Int) < (n : Int) := by omega
    have hcall := Lib.hid (hone.out wr _ hrow.out.kp hrd.out)
    have hmp2 : Hid ((rMany one (q + 1) o0).1 = rows.map (fun y => y) ++ [(one (rMany one q o0).2).1] ∧ (rMany one (q + 1) o0).2 = (one (rMany one q o0).2).2) := Lib.hid ⟨by rw [rMany_succ, hmp.out], by rw [rMany_succ]⟩
    generalize one (rMany one q o0).2 = p2 at hcall hmp2
    go_wp2_with fail
    refine hcall.out.mono ?_
    rintro e w3 ⟨y, rfl, hy, hk3, hr3, hst3⟩
    dsimp only at hy hst3 ⊢
    have hown3 := Lib.hid ((hrow.out.own3 hk3.out hRb).below ((Below.refl _ w3).alloc (Nat.le_refl _) (.cells (hmT.enc y).toArray 51)))
    have hnew := Lib.hid (RT.Own.one hmT w3 y w3.heap.size rfl).rd
    clear hcall
    go_wp2_with (at_builtin; go_loud (refine hmT.wpList_append rfl (.tmp 13) (.tmp 16) rfl _ _ rows [y] rfl rfl hown3.out hnew.out (by rw [List.length_singleton, hln.out]; omega) ?_))
    intro v8 w8 ho8 hg8 hat8
    have hst := hrow.out.step hk3.out hRb hst3.out ho8 hg8 hat8
    have hrow8 := Lib.hid hst.1
    have hr8 := Lib.hid (hst.2 _ _ hr3.out)
    have hln8 : Hid ((rows ++ [y]).length = q + 1) := Lib.hid (by rw [List.length_append, List.length_singleton, hln.out])
    have hmp8 : Hid ((rows ++ [y]).map (fun y => y) = (rMany one (q + 1) o0).1) := Lib.hid (by rw [hmp2.out.1, List.map_append, ← hy.out]; rfl)
    have hr9 : Hid (RdrAt w8 Rb s (rMany one (q + 1) o0).2) := Lib.hid (by rw [hmp2.out.2]; exact hr8.out)
    clear hst ho8 hg8 hat8 hown3 hnew hk3 hr3 hst3 hrow hrd hmp hmp2 hln hy hr8
    go_wp2_with fail
    go_roundw
    case rel => exact ⟨q + 1, _, by go_num, by omega, hln8, hmp8, hr9, hrow8⟩
    case measure => simp [intOf] <;> omega
  · obtain rfl : q = n := by omega
    go_wp2_with fail
    go_ret
    exact ⟨_, rows, rfl, hmp, Lib.hid hrow.out.kp, hrd, Lib.hid hrow.out.fin⟩
set_option maxRecDepth 100000 in
set_option maxHeartbeats 8000000 in
theorem read_seats_any (Rb RC : Nat) (s : ByteArray) (hs : s.size ≤ 1000000000000) (one : PS → St × PS) (most : Nat) (hm : most ≤ 1000) (o : PS) (We : World) (hro : RdrAt We Rb s o)
    (hone : ∀ w p, Kp Rb We w → RdrAt w Rb s p → Calls Tryz.prog 34 #[.pointer (some ⟨RC, 0, none⟩)] w (OneRet (α := St) (fun y => .agg #[.int .u64 y.session, .int .u64 y.last, .int .i64 y.node, .int .u64 y.life, .int .u64 y.try_]) (fun y => y) (fun _ _ => True) Rb s (one p) w)) :
    Calls Tryz.prog 33 #[.pointer (some ⟨Rb, 0, none⟩), .int .i64 most, .func (.func 34) #[] #[.pointer (some ⟨RC, 0, none⟩)]] We (ReadRet (α := St) stT (fun y => y) (fun _ _ => True) Rb s (rList most one o) We) := by
  have hRb := hro.lt
  have hcnt := Lib.hid (countR_any s hs Rb o most hm We hro)
  have hle := rNum_le most o
  unfold rList
  obtain ⟨⟨n, o0⟩, hn⟩ : ∃ p, rNum most o = p := ⟨_, rfl⟩
  rw [hn] at hcnt hle ⊢
  dsimp only at hcnt hle ⊢
  replace hone := Lib.hid hone
  clear hro hn
  go_enter Tryz.func33, Tryz.ntmps33
  go_wp2_with fail
  refine hcnt.out.mono ?_
  rintro e w1 ⟨rfl, hk1, hr1⟩
  have hrow0 : Hid (RdRow (α := St) stT (fun _ _ => True) Rb We w1 (.slice none 0 0) []) := Lib.hid (RdRow.nil hk1.out)
  clear hcnt
  go_wp2_with fail
  go_loopw [7, 11] (fun v7 v11 wr => ∃ (q : Nat) (rows : List (St)), v11 = .int .i64 q ∧ q ≤ n ∧ Hid (rows.length = q) ∧ Hid (rows.map (fun y => y) = (rMany one q o0).1) ∧ Hid (RdrAt wr Rb s (rMany one q o0).2) ∧ Hid (RdRow (α := St) stT (fun _ _ => True) Rb We wr v7 rows)) (fun _ v11 _ => n - (intOf v11).toNat)
  case atStart => exact ⟨0, [], rfl, Nat.zero_le _, Lib.hid rfl, Lib.hid rfl, hr1, hrow0⟩
  case round =>
  obtain ⟨q, rows, rfl, hq, hln, hmp, hrd, hrow⟩ := hrel
  clear hr1 hk1 hrow0
  by_cases hlt : q < n
  · have hl1 : (q : Int) < (n : Int) := by omega
    have hcall := Lib.hid (hone.out wr _ hrow.out.kp hrd.out)
    have hmp2 : Hid ((rMany one (q + 1) o0).1 = rows.map (fun y => y) ++ [(one (rMany one q o0).2).1] ∧ (rMany one (q + 1) o0).2 = (one (rMany one q o0).2).2) := Lib.hid ⟨by rw [rMany_succ, hmp.out], by rw [rMany_succ]⟩
    generalize one (rMany one q o0).2 = p2 at hcall hmp2
    go_wp2_with fail
    refine hcall.out.mono ?_
    rintro e w3 ⟨y, rfl, hy, hk3, hr3, hst3⟩
    dsimp only at hy hst3 ⊢
    have hown3 := Lib.hid ((hrow.out.own3 hk3.out hRb).below ((Below.refl _ w3).alloc (Nat.le_refl _) (.cells (stT.enc y).toArray 55)))
    have hnew := Lib.hid (RT.Own.one stT w3 y w3.heap.size rfl).rd
    clear hcall
    go_wp2_with (at_builtin; go_loud (refine stT.wpList_append rfl (.tmp 13) (.tmp 16) rfl _ _ rows [y] rfl rfl hown3.out hnew.out (by rw [List.length_singleton, hln.out]; omega) ?_))
    intro v8 w8 ho8 hg8 hat8
    have hst := hrow.out.step hk3.out hRb hst3.out ho8 hg8 hat8
    have hrow8 := Lib.hid hst.1
    have hr8 := Lib.hid (hst.2 _ _ hr3.out)
    have hln8 : Hid ((rows ++ [y]).length = q + 1) := Lib.hid (by rw [List.length_append, List.length_singleton, hln.out])
    have hmp8 : Hid ((rows ++ [y]).map (fun y => y) = (rMany one (q + 1) o0).1) := Lib.hid (by rw [hmp2.out.1, List.map_append, ← hy.out]; rfl)
    have hr9 : Hid (RdrAt w8 Rb s (rMany one (q + 1) o0).2) := Lib.hid (by rw [hmp2.out.2]; exact hr8.out)
    clear hst ho8 hg8 hat8 hown3 hnew hk3 hr3 hst3 hrow hrd hmp hmp2 hln hy hr8
    go_wp2_with fail
    go_roundw
    case rel => exact ⟨q + 1, _, by go_num, by omega, hln8, hmp8, hr9, hrow8⟩
    case measure => simp [intOf] <;> omega
  · obtain rfl : q = n := by omega
    go_wp2_with fail
    go_ret
    exact ⟨_, rows, rfl, hmp, Lib.hid hrow.out.kp, hrd, Lib.hid hrow.out.fin⟩
end Go.Proofs.YtpkaoiadjffjiaaGreat
