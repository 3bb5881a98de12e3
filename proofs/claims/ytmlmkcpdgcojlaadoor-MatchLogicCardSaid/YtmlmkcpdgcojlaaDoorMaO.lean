/- MatchLogic: walked. -/
import Derived.Test.YtmlmkcpdgcojlaaDoorMaN
import Derived.Deep.RegionHeld3
namespace Go.Proofs.YtmlmkcpdgcojlaaDoor
open Go.RowKit

set_option maxRecDepth 100000 in
set_option maxHeartbeats 2000000 in
theorem saysF_any (ks : List KeyD) (v : Value) (x : LetterD) (p : PlaceD) (s : ByteArray) (m : Int) (w : World) (hs : s.size ≤ 4194304) (hk : KeysIn w w.heap.size v ks) (hset : ∀ k ∈ ks, SetIn w k) (hlen : ∀ k ∈ ks, k.field.size ≤ 4194304 ∧ k.text.size ≤ 4194304) (hf : FlagIn w x) (hm : w.cell? ⟨0, 0, none⟩ = some (.int .i64 m)) :
    Calls Tryd.prog 9 #[v, mailV x p s] w fun e w' => e = .returned (.bool (matchL ks x p s.data.toList)) ∧ Hid (Below w.heap.size w w') := by
  unfold mailV
  obtain ⟨W1, hW1⟩ : ∃ W1, W1 = w.alloc (.cells #[.int .u64 x.uid, .slice x.fa x.fn x.fc, .int .u64 x.md, .string x.hash, .int .u64 x.size, .int .u64 p.seq, .int .u64 p.mostSeq, .int .u64 p.mostUid, .string s] 30) := ⟨_, rfl⟩
  have hb1 : Below w.heap.size w W1 := by rw [hW1]; exact (Below.refl _ w).alloc (Nat.le_refl _) _
  have h0 := heap_pos hm
  have hc := match_any ks v x p s m W1 hs (asked_keys ((hk.later hb1).mono hb1.size) (fun k hk => (hset k hk).later hb1) hlen (fun w2 h2 => hf w2 (hb1.trans (h2.mono hb1.size))) ((hb1.cell (p := ⟨0, 0, none⟩) (by show 0 < _; omega)).trans hm))
  unfold letterV placeV at hc
  replace hc := Lib.hid hc
  have hcell := cells_new w #[.int .u64 x.uid, .slice x.fa x.fn x.fc, .int .u64 x.md, .string x.hash, .int .u64 x.size, .int .u64 p.seq, .int .u64 p.mostSeq, .int .u64 p.mostUid, .string s] 30
  rw [← hW1] at hcell
  have r0 := cell_at hcell 0
  have r1 := cell_at hcell 1
  have r2 := cell_at hcell 2
  have r3 := cell_at hcell 3
  have r4 := cell_at hcell 4
  have r5 := cell_at hcell 5
  have r6 := cell_at hcell 6
  have r7 := cell_at hcell 7
  have r8 := cell_at hcell 8
  clear hk hset hlen hf hm hcell
  go_enter Tryd.func9, Tryd.ntmps9
  go_wp2_with fail
  rw [← hW1]
  go_wp2_with fail
  refine hc.out.mono ?_
  rintro e W2 ⟨rfl, hb2⟩
  go_wp2_with fail
  go_ret
  exact ⟨rfl, Lib.hid (hb1.trans (hb2.out.mono hb1.size))⟩
/-- a mail lies in block w.heap.size, the lists lie where they lie, and nothing of w has turned -/
def KW (w : World) (C : Array Value) (l : List (Value × List KeyD)) (W : World) : Prop := MB w C W ∧ ∀ q ∈ l, KeysIn W W.heap.size q.1 q.2
theorem KW.on {w W W' : World} {C : Array Value} {l : List (Value × List KeyD)} (h : KW w C l W) (hb : Below W.heap.size W W') : KW w C l W' :=
  ⟨h.1.on hb, fun q hq => ((h.2 q hq).later hb).mono hb.size⟩
theorem KW.drew {w W : World} {C : Array Value} {l : List (Value × List KeyD)} (h : KW w C l W) : KW w C l W.drew := h.on (Below.drew (Below.refl _ _))
theorem KW.add {w W : World} {C : Array Value} {l : List (Value × List KeyD)} {v : Value} {ks : List KeyD} (h : KW w C l W) (hk : KeysIn W W.heap.size v ks) : KW w C ((v, ks) :: l) W :=
  ⟨h.1, fun q hq => by
    rcases List.mem_cons.1 hq with rfl | hq
    · exact hk
    · exact h.2 q hq⟩
theorem KW.keys {w W : World} {C : Array Value} {l : List (Value × List KeyD)} {v : Value} {ks : List KeyD} (h : KW w C l W) (hm : (v, ks) ∈ l) : KeysIn W W.heap.size v ks := h.2 _ hm
def Said (tab : List (Value × Bool)) (v : Value) (r : Bool) : Prop := (v, r) ∈ tab
def LogicS (w : World) (x : LetterD) (p : PlaceD) (s : ByteArray) (C : Array Value) (l : List (Value × List KeyD)) (W : World) : Prop := W.cell? ⟨w.heap.size, 0, none⟩ = some (.int .u64 x.uid) ∧ W.cell? ⟨w.heap.size, 1, none⟩ = some (.slice x.fa x.fn x.fc) ∧ W.cell? ⟨w.heap.size, 2, none⟩ = some (.int .u64 x.md) ∧ W.cell? ⟨w.heap.size, 3, none⟩ = some (.string x.hash) ∧ W.cell? ⟨w.heap.size, 4, none⟩ = some (.int .u64 x.size) ∧ W.cell? ⟨w.heap.size, 5, none⟩ = some (.int .u64 p.seq) ∧ W.cell? ⟨w.heap.size, 6, none⟩ = some (.int .u64 p.mostSeq) ∧ W.cell? ⟨w.heap.size, 7, none⟩ = some (.int .u64 p.mostUid) ∧ W.cell? ⟨w.heap.size, 8, none⟩ = some (.string s) ∧ KW w C l W
set_option maxRecDepth 100000 in
set_option maxHeartbeats 8000000 in
theorem matchLogic_any (ka kb : List KeyD) (va vb : Value) (x : LetterD) (p : PlaceD) (s : ByteArray) (hs9 : s.size ≤ 9223372036854775807) (w : World) (hka : KeysIn w w.heap.size va ka) (hkb : KeysIn w w.heap.size vb kb) (hsa : ∀ k ∈ ka, SetIn w k) (hsb : ∀ k ∈ kb, SetIn w k) (hf : FlagIn w x) (hm : ∃ m, w.cell? ⟨0, 0, none⟩ = some (.int .i64 m)) :
    Calls Tryd.prog 3 #[va, vb, mailV x p s] w fun e w' => e = .returned (.bool true) ∧ Below w.heap.size w w' := by
  obtain ⟨m, hm⟩ := hm
  have hmx : Tryd.prog.follows .mixedOrders = true := by kernel_rfl
  have h0 := heap_pos hm
  have hmb := Lib.hid (fun w' (h : Below w.heap.size w w') => (h.cell (p := ⟨0, 0, none⟩) (by show 0 < _; omega)).trans hm)
  have hfb := Lib.hid (fun w' (h : Below w.heap.size w w') => ((fun w2 h2 => hf w2 (h.trans (h2.mono h.size))) : FlagIn w' x))
  obtain ⟨C, hC⟩ : ∃ C : Array Value, C = #[.int .u64 x.uid, .slice x.fa x.fn x.fc, .int .u64 x.md, .string x.hash, .int .u64 x.size, .int .u64 p.seq, .int .u64 p.mostSeq, .int .u64 p.mostUid, .string s] := ⟨_, rfl⟩
  have hal := Lib.hid (fun l W (h : KW w C l W) => (alive_any m W (hmb.out W h.1.1) (Nat.le_trans h0 h.1.1.size)).mono fun e W' h' => (⟨h'.1, h.on h'.2.out⟩ : e = Ending.returned (Value.bool true) ∧ KW w C l W'))
  obtain ⟨W1, hW1⟩ : ∃ W1, W1 = w.alloc (.cells #[.int .u64 x.uid, .slice x.fa x.fn x.fc, .int .u64 x.md, .string x.hash, .int .u64 x.size, .int .u64 p.seq, .int .u64 p.mostSeq, .int .u64 p.mostUid, .string s] 30) := ⟨_, rfl⟩
  have hMW1 : KW w C [(va, ka), (vb, kb)] W1 := by
    have hb : Below w.heap.size w W1 := by rw [hW1]; exact (Below.refl _ w).alloc (Nat.le_refl _) _
    refine ⟨⟨hb, by rw [hW1, hC]; exact cells_new w _ _⟩, fun q hq => ?_⟩
    simp only [List.mem_cons, List.not_mem_nil, or_false] at hq
    rcases hq with rfl | rfl
    · exact (hka.later hb).mono hb.size
    · exact (hkb.later hb).mono hb.size
  have hS : ∀ l W, KW w C l W → LogicS w x p s C l W := by
    intro l W h
    have hc := fun j => cell_at h.1.2 j
    rw [hC] at hc
    exact ⟨hc 0, hc 1, hc 2, hc 3, hc 4, hc 5, hc 6, hc 7, hc 8, h⟩
  replace hS := Lib.hid hS
  have hsh := Lib.hid (fun l W v ks (h : KW w C l W) (hm : (v, ks) ∈ l) => (short_any ks v s hs9 W (h.keys hm)).mono fun e W' h' => (⟨h'.1, h.on h'.2⟩ : e = Ending.returned (Value.bool (shortL ks s.size)) ∧ KW w C l W'))
  have hwh := Lib.hid (fun l W v ks (h : KW w C l W) (hm : (v, ks) ∈ l) (hw : ∀ k ∈ ks, SetIn w k) => (whole_any ks v (fun k hk => (hw k hk).1) W (h.keys hm)).mono fun e W' h' => (⟨h'.1, h.on h'.2.out⟩ : e = Ending.returned (Value.bool (wholeL ks)) ∧ KW w C l W'))
  unfold mailV
  have hshA := Lib.hid (fun W h => hsh.out [(va, ka), (vb, kb)] W va ka h (by simp))
  have hshB := Lib.hid (fun W h => hsh.out [(va, ka), (vb, kb)] W vb kb h (by simp))
  have hwhA := Lib.hid (fun W h => hwh.out [(va, ka), (vb, kb)] W va ka h (by simp) hsa)
  have hwhB := Lib.hid (fun W h => hwh.out [(va, ka), (vb, kb)] W vb kb h (by simp) hsb)
  clear hm hf hka hkb
  rcases Bool.eq_false_or_eq_true (shortL ka s.size) with hA | hA
  rotate_left
  · rw [hA] at hshA
    go_enter Tryd.func3, Tryd.ntmps3
    go_wp2_with fail
    rw [← hW1]
    refine (hal.out _ _ hMW1).mono ?_
    rintro e W2 ⟨rfl, h2⟩
    obtain ⟨r0, r1, r2, r3, r4, r5, r6, r7, r8, -⟩ := hS.out _ _ h2
    go_wp2_with fail
    refine (hshA.out _ h2).mono ?_
    rintro e W3 ⟨rfl, h3⟩
    go_wp2_with fail
    go_ret
    exact ⟨rfl, h3.1.1⟩
  rcases Bool.eq_false_or_eq_true (shortL kb s.size) with hB | hB
  rotate_left
  · rw [hA] at hshA
    rw [hB] at hshB
    go_enter Tryd.func3, Tryd.ntmps3
    go_wp2_with fail
    rw [← hW1]
    refine (hal.out _ _ hMW1).mono ?_
    rintro e W2 ⟨rfl, h2⟩
    obtain ⟨r0, r1, r2, r3, r4, r5, r6, r7, r8, -⟩ := hS.out _ _ h2
    go_wp2_with fail
    refine (hshA.out _ h2).mono ?_
    rintro e W3 ⟨rfl, h3⟩
    obtain ⟨r0, r1, r2, r3, r4, r5, r6, r7, r8, -⟩ := hS.out _ _ h3
    go_wp2_with fail
    refine (hshB.out _ h3).mono ?_
    rintro e W4 ⟨rfl, h4⟩
    go_wp2_with fail
    go_ret
    exact ⟨rfl, h4.1.1⟩
  rcases Bool.eq_false_or_eq_true (wholeL ka) with hWA | hWA
  rotate_left
  · rw [hA] at hshA
    rw [hB] at hshB
    rw [hWA] at hwhA
    go_enter Tryd.func3, Tryd.ntmps3
    go_wp2_with fail
    rw [← hW1]
    refine (hal.out _ _ hMW1).mono ?_
    rintro e W2 ⟨rfl, h2⟩
    obtain ⟨r0, r1, r2, r3, r4, r5, r6, r7, r8, -⟩ := hS.out _ _ h2
    go_wp2_with fail
    refine (hshA.out _ h2).mono ?_
    rintro e W3 ⟨rfl, h3⟩
    obtain ⟨r0, r1, r2, r3, r4, r5, r6, r7, r8, -⟩ := hS.out _ _ h3
    go_wp2_with fail
    refine (hshB.out _ h3).mono ?_
    rintro e W4 ⟨rfl, h4⟩
    go_wp2_with fail
    refine (hwhA.out _ h4).mono ?_
    rintro e W5 ⟨rfl, h5⟩
    go_wp2_with fail
    go_ret
    exact ⟨rfl, h5.1.1⟩
  rcases Bool.eq_false_or_eq_true (wholeL kb) with hWB | hWB
  rotate_left
  · rw [hA] at hshA
    rw [hB] at hshB
    rw [hWA] at hwhA
    rw [hWB] at hwhB
    go_enter Tryd.func3, Tryd.ntmps3
    go_wp2_with fail
    rw [← hW1]
    refine (hal.out _ _ hMW1).mono ?_
    rintro e W2 ⟨rfl, h2⟩
    obtain ⟨r0, r1, r2, r3, r4, r5, r6, r7, r8, -⟩ := hS.out _ _ h2
    go_wp2_with fail
    refine (hshA.out _ h2).mono ?_
    rintro e W3 ⟨rfl, h3⟩
    obtain ⟨r0, r1, r2, r3, r4, r5, r6, r7, r8, -⟩ := hS.out _ _ h3
    go_wp2_with fail
    refine (hshB.out _ h3).mono ?_
    rintro e W4 ⟨rfl, h4⟩
    go_wp2_with fail
    refine (hwhA.out _ h4).mono ?_
    rintro e W5 ⟨rfl, h5⟩
    go_wp2_with fail
    refine (hwhB.out _ h5).mono ?_
    rintro e W6 ⟨rfl, h6⟩
    go_wp2_with fail
    go_ret
    exact ⟨rfl, h6.1.1⟩
  rw [hA] at hshA
  rw [hB] at hshB
  rw [hWA] at hwhA
  rw [hWB] at hwhB
  go_enter Tryd.func3, Tryd.ntmps3
  go_wp2_with fail
  rw [← hW1]
  refine (hal.out _ _ hMW1).mono ?_
  rintro e W2 ⟨rfl, h2⟩
  obtain ⟨r0, r1, r2, r3, r4, r5, r6, r7, r8, -⟩ := hS.out _ _ h2
  go_wp2_with fail
  refine (hshA.out _ h2).mono ?_
  rintro e W3 ⟨rfl, h3⟩
  obtain ⟨r0, r1, r2, r3, r4, r5, r6, r7, r8, -⟩ := hS.out _ _ h3
  go_wp2_with fail
  refine (hshB.out _ h3).mono ?_
  rintro e W4 ⟨rfl, h4⟩
  go_wp2_with fail
  refine (hwhA.out _ h4).mono ?_
  rintro e W5 ⟨rfl, h5⟩
  go_wp2_with fail
  refine (hwhB.out _ h5).mono ?_
  rintro e W6 ⟨rfl, h6⟩
  clear hshA hshB hwhA hwhB h2 h3 h4 h5 hMW1 hW1
  obtain ⟨hlA, hs4, hlenA⟩ := short_lens hA
  obtain ⟨hlB, _, hlenB⟩ := short_lens hB
  have k6 := Lib.hid h6
  clear h6
  go_wp2_with (at_builtin; refine wpList_append_lit (W := W6) rfl _ _ rfl 2 0 va ka rfl rfl (k6.out.keys (by simp)) (by omega) ?_)
  intro vn W7 on7 b7
  have k7 := Lib.hid ((k6.out.on b7).add on7.rd.keys)
  clear k6 on7 b7
  go_wp2_with (at_builtin; refine wpList_append_lit (W := W7) rfl _ _ rfl 3 0 va ka rfl rfl (k7.out.keys (by simp)) (by omega) ?_)
  intro vo1 W8 on8 b8
  have k8 := Lib.hid (k7.out.on b8)
  replace on8 := Lib.hid on8
  have z8 := b8.size
  replace b8 := Lib.hid b8
  go_wp2_with (at_builtin; refine wpList_append_keys rfl _ _ rfl W7.heap.size vo1 vb (litK 3 0 :: ka) kb rfl rfl on8.out (k8.out.keys (v := vb) (ks := kb) (by simp)).rd (by simp; omega) z8 ?_)
  intro vo W9 on9 b9
  have k9 := Lib.hid ((k7.out.on (b8.out.trans b9)).add on9.rd.keys)
  clear k7 on8 b8 k8 z8 on9 b9
  go_wp2_with (at_builtin; refine wpList_append_lit (W := W9) rfl _ _ rfl 1 2 va ka rfl rfl (k9.out.keys (by simp)) (by omega) ?_)
  intro vd1 W10 on10 b10
  have k10 := Lib.hid (k9.out.on b10)
  replace on10 := Lib.hid on10
  have z10 := b10.size
  replace b10 := Lib.hid b10
  go_wp2_with (at_builtin; refine wpList_append_keys rfl _ _ rfl W9.heap.size vd1 vb (litK 1 2 :: ka) kb rfl rfl on10.out (k10.out.keys (v := vb) (ks := kb) (by simp)).rd (by simp; omega) z10 ?_)
  intro vd W11 on11 b11
  have k11 := Lib.hid ((k9.out.on (b10.out.trans b11)).add on11.rd.keys)
  clear k9 on10 b10 k10 z10 on11 b11
  go_wp2_with (at_builtin; refine wpList_append_lit (W := W11) rfl _ _ rfl 2 0 vo (litK 3 0 :: ka ++ kb) rfl rfl (k11.out.keys (by simp)) (by simp; omega) ?_)
  intro vr W12 on12 b12
  have k12 := Lib.hid ((k11.out.on b12).add on12.rd.keys)
  clear k11 on12 b12
  go_wp2_with (at_builtin; refine wpList_append_lit (W := W12) rfl _ _ rfl 1 2 vn (litK 2 0 :: ka) rfl rfl (k12.out.keys (by simp)) (by simp; omega) ?_)
  intro vs1 W13 on13 b13
  replace on13 := Lib.hid on13
  have z13 := b13.size
  replace b13 := Lib.hid b13
  go_wp2_with (at_builtin; refine wpList_append_one (W := W13) rfl _ _ rfl W12.heap.size vs1 (litK 1 2 :: litK 2 0 :: ka) 2 0 rfl rfl on13.out (by simp; omega) z13 ?_)
  intro vs2 W14 on14 b14
  have b124 := b13.out.trans b14
  have k14 := Lib.hid (k12.out.on b124)
  have z14 := b124.size
  replace on14 := Lib.hid on14
  replace b124 := Lib.hid b124
  clear on13 b13 z13 b14
  go_wp2_with (at_builtin; refine wpList_append_keys rfl _ _ rfl W12.heap.size vs2 vb (litK 1 2 :: litK 2 0 :: ka ++ [litK 2 0]) kb rfl rfl on14.out (k14.out.keys (v := vb) (ks := kb) (by simp)).rd (by simp; omega) z14 ?_)
  intro vs W15 on15 b15
  have k15 := (k12.out.on (b124.out.trans b15)).add on15.rd.keys
  clear k12 on14 b124 k14 z14 on15 b15
  have e2 : litK 1 2 :: litK 2 0 :: ka ++ [litK 2 0] ++ kb = litK 1 2 :: litK 2 0 :: (ka ++ (litK 2 0 :: kb)) := by simp
  obtain ⟨l, hl⟩ : ∃ l : List (Value × List KeyD), l = [(vs, litK 1 2 :: litK 2 0 :: (ka ++ litK 2 0 :: kb)), (vr, litK 2 0 :: litK 3 0 :: (ka ++ kb)), (vd, litK 1 2 :: (ka ++ kb)), (vo, litK 3 0 :: (ka ++ kb)), (vn, litK 2 0 :: ka), (va, ka), (vb, kb)] := ⟨_, rfl⟩
  have K15 : KW w C l W15 := by
    rw [hl]
    first | exact k15 | (rw [e2] at k15; exact k15) | simpa using k15
  clear k15 e2
  have hl2 : SetIn w (litK 2 0) := lit_set w 2 0 (by decide)
  have hl3 : SetIn w (litK 3 0) := lit_set w 3 0 (by decide)
  have hl1 : SetIn w (litK 1 2) := lit_set w 1 2 (by decide)
  have hab : ∀ k, k ∈ ka ++ kb → SetIn w k := fun k h => by
    rcases List.mem_append.1 h with h | h
    · exact hsa k h
    · exact hsb k h
  have hset : ∀ q, q ∈ l → ∀ k ∈ q.2, SetIn w k ∧ k.field.size ≤ 4194304 ∧ k.text.size ≤ 4194304 := by
    have h0 : ∀ k, k = litK 2 0 ∨ k = litK 3 0 ∨ k = litK 1 2 ∨ k ∈ ka ∨ k ∈ kb → SetIn w k ∧ k.field.size ≤ 4194304 ∧ k.text.size ≤ 4194304 := by
      rintro k (rfl | rfl | rfl | h | h)
      · exact ⟨hl2, by decide, by decide⟩
      · exact ⟨hl3, by decide, by decide⟩
      · exact ⟨hl1, by decide, by decide⟩
      · exact ⟨hsa k h, hlenA k h⟩
      · exact ⟨hsb k h, hlenB k h⟩
    intro q hq k hk
    rw [hl] at hq
    simp only [List.mem_cons, List.not_mem_nil, or_false] at hq
    apply h0
    rcases hq with rfl | rfl | rfl | rfl | rfl | rfl | rfl <;> (simp only [List.mem_cons, List.mem_append] at hk; grind)
  clear hab hl1 hl2 hl3
  have hwhR := Lib.hid (fun W h => hwh.out l W vr (litK 2 0 :: litK 3 0 :: (ka ++ kb)) h (by rw [hl]; simp) (fun k hk => (hset (vr, litK 2 0 :: litK 3 0 :: (ka ++ kb)) (by rw [hl]; simp) k hk).1))
  have hwhS := Lib.hid (fun W h => hwh.out l W vs (litK 1 2 :: litK 2 0 :: (ka ++ litK 2 0 :: kb)) h (by rw [hl]; simp) (fun k hk => (hset (vs, litK 1 2 :: litK 2 0 :: (ka ++ litK 2 0 :: kb)) (by rw [hl]; simp) k hk).1))
  have hwhD := Lib.hid (fun W h => hwh.out l W vd (litK 1 2 :: (ka ++ kb)) h (by rw [hl]; simp) (fun k hk => (hset (vd, litK 1 2 :: (ka ++ kb)) (by rw [hl]; simp) k hk).1))
  rcases Bool.eq_false_or_eq_true (wholeL (litK 2 0 :: litK 3 0 :: (ka ++ kb))) with hWR | hWR
  rotate_left
  · rw [hWR] at hwhR
    go_wp2_with fail
    refine (hwhR.out _ K15).mono ?_
    rintro e W16 ⟨rfl, h16⟩
    go_wp2_with fail
    go_ret
    exact ⟨rfl, h16.1.1⟩
  rcases Bool.eq_false_or_eq_true (wholeL (litK 1 2 :: litK 2 0 :: (ka ++ litK 2 0 :: kb))) with hWS | hWS
  rotate_left
  · rw [hWR] at hwhR
    rw [hWS] at hwhS
    go_wp2_with fail
    refine (hwhR.out _ K15).mono ?_
    rintro e W16 ⟨rfl, h16⟩
    go_wp2_with fail
    refine (hwhS.out _ h16).mono ?_
    rintro e W17 ⟨rfl, h17⟩
    go_wp2_with fail
    go_ret
    exact ⟨rfl, h17.1.1⟩
  rcases Bool.eq_false_or_eq_true (wholeL (litK 1 2 :: (ka ++ kb))) with hWD | hWD
  rotate_left
  · rw [hWR] at hwhR
    rw [hWS] at hwhS
    rw [hWD] at hwhD
    go_wp2_with fail
    refine (hwhR.out _ K15).mono ?_
    rintro e W16 ⟨rfl, h16⟩
    go_wp2_with fail
    refine (hwhS.out _ h16).mono ?_
    rintro e W17 ⟨rfl, h17⟩
    go_wp2_with fail
    refine (hwhD.out _ h17).mono ?_
    rintro e W18 ⟨rfl, h18⟩
    go_wp2_with fail
    go_ret
    exact ⟨rfl, h18.1.1⟩
  have hWO := whole_tail (N := litK 2 0) rfl hWR
  have hWN := whole_not (N := litK 2 0) (D := litK 1 2) rfl rfl rfl hWA hWS
  obtain ⟨lf, hlf⟩ : ∃ lf : KeyD → Bool, lf = fun k => leafL k x p s.data.toList := ⟨_, rfl⟩
  have hmatch : ∀ ks, wholeL ks = true → matchL ks x p s.data.toList = saysL ks lf := fun ks h => by
    rw [matchL, h, Bool.true_and, hlf]; rfl
  obtain ⟨tab, htab⟩ : ∃ tab : List (Value × Bool), tab = [(vs, !saysL ka lf && !saysL kb lf), (vr, !(saysL ka lf || saysL kb lf)), (vd, saysL ka lf && saysL kb lf), (vo, saysL ka lf || saysL kb lf), (vn, !saysL ka lf), (va, saysL ka lf), (vb, saysL kb lf)] := ⟨_, rfl⟩
  have hcall : ∀ v r, Said tab v r → ∀ W, KW w C l W → Calls Tryd.prog 9 #[v, mailV x p s] W fun e W' => e = .returned (.bool r) ∧ KW w C l W' := by
    have h1 : ∀ v ks, (v, ks) ∈ l → ∀ W, KW w C l W → Calls Tryd.prog 9 #[v, mailV x p s] W fun e W' => e = .returned (.bool (matchL ks x p s.data.toList)) ∧ KW w C l W' := fun v ks hm W h => by
      exact (saysF_any ks v x p s m W (by omega) (h.keys hm) (fun k hk => (hset _ hm k hk).1.later h.1.1) (fun k hk => (hset _ hm k hk).2) (hfb.out W h.1.1) (hmb.out W h.1.1)).mono fun e W' h' => ⟨h'.1, h.on h'.2.out⟩
    intro v r hr
    unfold Said at hr
    rw [htab] at hr
    simp only [List.mem_cons, List.not_mem_nil, or_false, Prod.mk.injEq] at hr
    rcases hr with ⟨rfl, rfl⟩ | ⟨rfl, rfl⟩ | ⟨rfl, rfl⟩ | ⟨rfl, rfl⟩ | ⟨rfl, rfl⟩ | ⟨rfl, rfl⟩ | ⟨rfl, rfl⟩
    · rw [← says_nots (N := litK 2 0) (D := litK 1 2) rfl rfl rfl hWA hWB, ← hmatch _ hWS]; exact h1 _ _ (by rw [hl]; simp)
    · rw [← says_nor (N := litK 2 0) (O := litK 3 0) rfl rfl hWA hWB, ← hmatch _ hWR]; exact h1 _ _ (by rw [hl]; simp)
    · rw [← says_and (D := litK 1 2) rfl rfl hWA hWB, ← hmatch _ hWD]; exact h1 _ _ (by rw [hl]; simp)
    · rw [← says_or (O := litK 3 0) rfl hWA hWB, ← hmatch _ hWO]; exact h1 _ _ (by rw [hl]; simp)
    · rw [← says_not (N := litK 2 0) rfl hWA, ← hmatch _ hWN]; exact h1 _ _ (by rw [hl]; simp)
    · rw [← hmatch _ hWA]; exact h1 _ _ (by rw [hl]; simp)
    · rw [← hmatch _ hWB]; exact h1 _ _ (by rw [hl]; simp)
  rw [hWR] at hwhR
  rw [hWS] at hwhS
  rw [hWD] at hwhD
  have t1 : Said tab vs (!saysL ka lf && !saysL kb lf) := by unfold Said; rw [htab]; simp
  have t2 : Said tab vr (!(saysL ka lf || saysL kb lf)) := by unfold Said; rw [htab]; simp
  have t3 : Said tab vd (saysL ka lf && saysL kb lf) := by unfold Said; rw [htab]; simp
  have t4 : Said tab vo (saysL ka lf || saysL kb lf) := by unfold Said; rw [htab]; simp
  have t5 : Said tab vn (!saysL ka lf) := by unfold Said; rw [htab]; simp
  have t6 : Said tab va (saysL ka lf) := by unfold Said; rw [htab]; simp
  have t7 : Said tab vb (saysL kb lf) := by unfold Said; rw [htab]; simp
  unfold mailV at hcall
  replace hcall := Lib.hid hcall
  clear hWR hWS hWD hWO hWN hlf hmatch htab hset hWA hWB hA hB hlenA hlenB hsa hsb hwh hsh hal
  generalize saysL ka lf = A at t1 t2 t3 t4 t5 t6 t7
  generalize saysL kb lf = B at t1 t2 t3 t4 t5 t6 t7
  go_wp2_with fail
  refine (hwhR.out _ K15).mono ?_
  rintro e W16 ⟨rfl, h16⟩
  go_wp2_with fail
  refine (hwhS.out _ h16).mono ?_
  rintro e W17 ⟨rfl, h17⟩
  go_wp2_with fail
  refine (hwhD.out _ h17).mono ?_
  rintro e W18 ⟨rfl, h18⟩
  have h18d := h18.drew
  clear K15 h16 h17 hwhR hwhS hwhD hl
  go_wp2_with fail
  cases A <;> cases B
  · replace t1 : Said tab vs true := t1
    replace t2 : Said tab vr true := t2
    replace t3 : Said tab vd false := t3
    replace t4 : Said tab vo false := t4
    replace t5 : Said tab vn true := t5
    refine wp_region_held_drew (S := LogicS w x p s C l) hmx (hS.out _ _ h18d) (fun hHeld => ?_)
    refine wpAnyH_take (i := 0) (oi := _) (v := _) rfl (by kernel_rfl) (by kernel_rfl) (by kernel_rfl) (fun _ _ _ h => h) (Or.inl ⟨by rfl, fun W _ => rfl⟩) (by assumption) ?_
    (try simp only [List.getElem_toArray, List.getElem_cons_succ, List.getElem_cons_zero, Act.put, List.setIfInBounds_toArray, List.set_cons_zero, List.set_cons_succ])
    refine wpAnyH_take (i := 1) (oi := _) (v := .agg #[.int .u64 x.uid, .slice x.fa x.fn x.fc, .int .u64 x.md, .string x.hash, .int .u64 x.size, .int .u64 p.seq, .int .u64 p.mostSeq, .int .u64 p.mostUid, .string s]) rfl (by kernel_rfl) (by kernel_rfl) (by kernel_rfl) (fun _ _ _ h => h) (Or.inl ⟨by rfl, fun W hW => by unfold LogicS at hW; obtain ⟨q0, q1, q2, q3, q4, q5, q6, q7, q8, -⟩ := hW; go_simp⟩) (by assumption) ?_
    (try simp only [List.getElem_toArray, List.getElem_cons_succ, List.getElem_cons_zero, Act.put, List.setIfInBounds_toArray, List.set_cons_zero, List.set_cons_succ])
    refine wpAnyH_take (i := 3) (oi := _) (v := _) rfl (by kernel_rfl) (by kernel_rfl) (by kernel_rfl) (fun _ _ _ h => h) (Or.inl ⟨by rfl, fun W _ => rfl⟩) (by assumption) ?_
    (try simp only [List.getElem_toArray, List.getElem_cons_succ, List.getElem_cons_zero, Act.put, List.setIfInBounds_toArray, List.set_cons_zero, List.set_cons_succ])
    refine wpAnyH_take (i := 4) (oi := _) (v := .agg #[.int .u64 x.uid, .slice x.fa x.fn x.fc, .int .u64 x.md, .string x.hash, .int .u64 x.size, .int .u64 p.seq, .int .u64 p.mostSeq, .int .u64 p.mostUid, .string s]) rfl (by kernel_rfl) (by kernel_rfl) (by kernel_rfl) (fun _ _ _ h => h) (Or.inl ⟨by rfl, fun W hW => by unfold LogicS at hW; obtain ⟨q0, q1, q2, q3, q4, q5, q6, q7, q8, -⟩ := hW; go_simp⟩) (by assumption) ?_
    (try simp only [List.getElem_toArray, List.getElem_cons_succ, List.getElem_cons_zero, Act.put, List.setIfInBounds_toArray, List.set_cons_zero, List.set_cons_succ])
    refine wpAnyH_ready (rs := [2]) (by kernel_rfl) (by simp) ?_
    refine AllReadyH.cons rfl (fun K hK => ?_) AllReadyH.nil
    go_simp
    refine (hcall.out _ _ (by assumption) _ (by assumption)).mono ?_
    rintro e w7 ⟨rfl, h7⟩
    refine hK.out _ _ (hS.out _ _ h7) (fun hHeld => ?_)
    clear hK K
    (try simp only [List.getElem_toArray, List.getElem_cons_succ, List.getElem_cons_zero, Act.put, List.setIfInBounds_toArray, List.set_cons_zero, List.set_cons_succ])
    refine wpAnyH_ready (rs := [5]) (by kernel_rfl) (by simp) ?_
    refine AllReadyH.cons rfl (fun K hK => ?_) AllReadyH.nil
    go_simp
    refine (hcall.out _ _ (by assumption) _ (by assumption)).mono ?_
    rintro e w7 ⟨rfl, h7⟩
    refine hK.out _ _ (hS.out _ _ h7) (fun hHeld => ?_)
    clear hK K
    (try simp only [List.getElem_toArray, List.getElem_cons_succ, List.getElem_cons_zero, Act.put, List.setIfInBounds_toArray, List.set_cons_zero, List.set_cons_succ])
    refine wpAnyH_take (i := 6) (oi := _) (v := _) rfl (by kernel_rfl) (by kernel_rfl) (by kernel_rfl) (fun _ _ _ h => h) (Or.inl ⟨by rfl, fun W _ => rfl⟩) (by assumption) ?_
    (try simp only [List.getElem_toArray, List.getElem_cons_succ, List.getElem_cons_zero, Act.put, List.setIfInBounds_toArray, List.set_cons_zero, List.set_cons_succ])
    refine wpAnyH_take (i := 7) (oi := _) (v := _) rfl (by kernel_rfl) (by kernel_rfl) (by kernel_rfl) (fun _ _ _ h => h) (Or.inl ⟨by rfl, fun W _ => rfl⟩) (by assumption) ?_
    (try simp only [List.getElem_toArray, List.getElem_cons_succ, List.getElem_cons_zero, Act.put, List.setIfInBounds_toArray, List.set_cons_zero, List.set_cons_succ])
    refine wpAnyH_take (i := 8) (oi := _) (v := _) rfl (by kernel_rfl) (by kernel_rfl) (by kernel_rfl) (fun _ _ _ h => h) (Or.inl ⟨by rfl, fun W _ => rfl⟩) (by assumption) ?_
    (try simp only [List.getElem_toArray, List.getElem_cons_succ, List.getElem_cons_zero, Act.put, List.setIfInBounds_toArray, List.set_cons_zero, List.set_cons_succ])
    refine wpAnyH_take (i := 9) (oi := _) (v := _) rfl (by kernel_rfl) (by kernel_rfl) (by kernel_rfl) (fun _ _ _ h => h) (Or.inl ⟨by rfl, fun W _ => rfl⟩) (by assumption) ?_
    (try simp only [List.getElem_toArray, List.getElem_cons_succ, List.getElem_cons_zero, Act.put, List.setIfInBounds_toArray, List.set_cons_zero, List.set_cons_succ])
    refine wpAnyH_take (i := 10) (oi := _) (v := .agg #[.int .u64 x.uid, .slice x.fa x.fn x.fc, .int .u64 x.md, .string x.hash, .int .u64 x.size, .int .u64 p.seq, .int .u64 p.mostSeq, .int .u64 p.mostUid, .string s]) rfl (by kernel_rfl) (by kernel_rfl) (by kernel_rfl) (fun _ _ _ h => h) (Or.inl ⟨by rfl, fun W hW => by unfold LogicS at hW; obtain ⟨q0, q1, q2, q3, q4, q5, q6, q7, q8, -⟩ := hW; go_simp⟩) (by assumption) ?_
    (try simp only [List.getElem_toArray, List.getElem_cons_succ, List.getElem_cons_zero, Act.put, List.setIfInBounds_toArray, List.set_cons_zero, List.set_cons_succ])
    refine wpAnyH_take (i := 12) (oi := _) (v := _) rfl (by kernel_rfl) (by kernel_rfl) (by kernel_rfl) (fun _ _ _ h => h) (Or.inl ⟨by rfl, fun W _ => rfl⟩) (by assumption) ?_
    (try simp only [List.getElem_toArray, List.getElem_cons_succ, List.getElem_cons_zero, Act.put, List.setIfInBounds_toArray, List.set_cons_zero, List.set_cons_succ])
    refine wpAnyH_take (i := 13) (oi := _) (v := .agg #[.int .u64 x.uid, .slice x.fa x.fn x.fc, .int .u64 x.md, .string x.hash, .int .u64 x.size, .int .u64 p.seq, .int .u64 p.mostSeq, .int .u64 p.mostUid, .string s]) rfl (by kernel_rfl) (by kernel_rfl) (by kernel_rfl) (fun _ _ _ h => h) (Or.inl ⟨by rfl, fun W hW => by unfold LogicS at hW; obtain ⟨q0, q1, q2, q3, q4, q5, q6, q7, q8, -⟩ := hW; go_simp⟩) (by assumption) ?_
    (try simp only [List.getElem_toArray, List.getElem_cons_succ, List.getElem_cons_zero, Act.put, List.setIfInBounds_toArray, List.set_cons_zero, List.set_cons_succ])
    refine wpAnyH_ready (rs := [11]) (by kernel_rfl) (by simp) ?_
    refine AllReadyH.cons rfl (fun K hK => ?_) AllReadyH.nil
    go_simp
    refine (hcall.out _ _ (by assumption) _ (by assumption)).mono ?_
    rintro e w7 ⟨rfl, h7⟩
    refine hK.out _ _ (hS.out _ _ h7) (fun hHeld => ?_)
    clear hK K
    (try simp only [List.getElem_toArray, List.getElem_cons_succ, List.getElem_cons_zero, Act.put, List.setIfInBounds_toArray, List.set_cons_zero, List.set_cons_succ])
    refine wpAnyH_ready (rs := [14]) (by kernel_rfl) (by simp) ?_
    refine AllReadyH.cons rfl (fun K hK => ?_) AllReadyH.nil
    go_simp
    refine (hcall.out _ _ (by assumption) _ (by assumption)).mono ?_
    rintro e w7 ⟨rfl, h7⟩
    refine hK.out _ _ (hS.out _ _ h7) (fun hHeld => ?_)
    clear hK K
    (try simp only [List.getElem_toArray, List.getElem_cons_succ, List.getElem_cons_zero, Act.put, List.setIfInBounds_toArray, List.set_cons_zero, List.set_cons_succ])
    refine wpAnyH_take (i := 15) (oi := _) (v := _) rfl (by kernel_rfl) (by kernel_rfl) (by kernel_rfl) (fun _ _ _ h => h) (Or.inl ⟨by rfl, fun W _ => rfl⟩) (by assumption) ?_
    (try simp only [List.getElem_toArray, List.getElem_cons_succ, List.getElem_cons_zero, Act.put, List.setIfInBounds_toArray, List.set_cons_zero, List.set_cons_succ])
    refine wpAnyH_take (i := 16) (oi := _) (v := _) rfl (by kernel_rfl) (by kernel_rfl) (by kernel_rfl) (fun _ _ _ h => h) (Or.inl ⟨by rfl, fun W _ => rfl⟩) (by assumption) ?_
    (try simp only [List.getElem_toArray, List.getElem_cons_succ, List.getElem_cons_zero, Act.put, List.setIfInBounds_toArray, List.set_cons_zero, List.set_cons_succ])
    refine wpAnyH_take (i := 17) (oi := _) (v := .agg #[.int .u64 x.uid, .slice x.fa x.fn x.fc, .int .u64 x.md, .string x.hash, .int .u64 x.size, .int .u64 p.seq, .int .u64 p.mostSeq, .int .u64 p.mostUid, .string s]) rfl (by kernel_rfl) (by kernel_rfl) (by kernel_rfl) (fun _ _ _ h => h) (Or.inl ⟨by rfl, fun W hW => by unfold LogicS at hW; obtain ⟨q0, q1, q2, q3, q4, q5, q6, q7, q8, -⟩ := hW; go_simp⟩) (by assumption) ?_
    (try simp only [List.getElem_toArray, List.getElem_cons_succ, List.getElem_cons_zero, Act.put, List.setIfInBounds_toArray, List.set_cons_zero, List.set_cons_succ])
    refine wpAnyH_ready (rs := [18]) (by kernel_rfl) (by simp) ?_
    refine AllReadyH.cons rfl (fun K hK => ?_) AllReadyH.nil
    go_simp
    refine (hcall.out _ _ (by assumption) _ (by assumption)).mono ?_
    rintro e w7 ⟨rfl, h7⟩
    refine hK.out _ _ (hS.out _ _ h7) (fun hHeld => ?_)
    clear hK K
    (try simp only [List.getElem_toArray, List.getElem_cons_succ, List.getElem_cons_zero, Act.put, List.setIfInBounds_toArray, List.set_cons_zero, List.set_cons_succ])
    refine wpAnyH_take (i := 19) (oi := _) (v := _) rfl (by kernel_rfl) (by kernel_rfl) (by kernel_rfl) (fun _ _ _ h => h) (Or.inl ⟨by rfl, fun W _ => rfl⟩) (by assumption) ?_
    (try simp only [List.getElem_toArray, List.getElem_cons_succ, List.getElem_cons_zero, Act.put, List.setIfInBounds_toArray, List.set_cons_zero, List.set_cons_succ])
    refine wpAnyH_take (i := 20) (oi := _) (v := _) rfl (by kernel_rfl) (by kernel_rfl) (by kernel_rfl) (fun _ _ _ h => h) (Or.inl ⟨by rfl, fun W _ => rfl⟩) (by assumption) ?_
    (try simp only [List.getElem_toArray, List.getElem_cons_succ, List.getElem_cons_zero, Act.put, List.setIfInBounds_toArray, List.set_cons_zero, List.set_cons_succ])
    refine wpAnyH_take (i := 21) (oi := _) (v := _) rfl (by kernel_rfl) (by kernel_rfl) (by kernel_rfl) (fun _ _ _ h => h) (Or.inl ⟨by rfl, fun W _ => rfl⟩) (by assumption) ?_
    (try simp only [List.getElem_toArray, List.getElem_cons_succ, List.getElem_cons_zero, Act.put, List.setIfInBounds_toArray, List.set_cons_zero, List.set_cons_succ])
    refine wpAnyH_take (i := 22) (oi := _) (v := _) rfl (by kernel_rfl) (by kernel_rfl) (by kernel_rfl) (fun _ _ _ h => h) (Or.inl ⟨by rfl, fun W _ => rfl⟩) (by assumption) ?_
    (try simp only [List.getElem_toArray, List.getElem_cons_succ, List.getElem_cons_zero, Act.put, List.setIfInBounds_toArray, List.set_cons_zero, List.set_cons_succ])
    refine wpAnyH_take (i := 23) (oi := _) (v := _) rfl (by kernel_rfl) (by kernel_rfl) (by kernel_rfl) (fun _ _ _ h => h) (Or.inl ⟨by rfl, fun W _ => rfl⟩) (by assumption) ?_
    (try simp only [List.getElem_toArray, List.getElem_cons_succ, List.getElem_cons_zero, Act.put, List.setIfInBounds_toArray, List.set_cons_zero, List.set_cons_succ])
    refine wpAnyH_take (i := 24) (oi := _) (v := .agg #[.int .u64 x.uid, .slice x.fa x.fn x.fc, .int .u64 x.md, .string x.hash, .int .u64 x.size, .int .u64 p.seq, .int .u64 p.mostSeq, .int .u64 p.mostUid, .string s]) rfl (by kernel_rfl) (by kernel_rfl) (by kernel_rfl) (fun _ _ _ h => h) (Or.inl ⟨by rfl, fun W hW => by unfold LogicS at hW; obtain ⟨q0, q1, q2, q3, q4, q5, q6, q7, q8, -⟩ := hW; go_simp⟩) (by assumption) ?_
    (try simp only [List.getElem_toArray, List.getElem_cons_succ, List.getElem_cons_zero, Act.put, List.setIfInBounds_toArray, List.set_cons_zero, List.set_cons_succ])
    refine wpAnyH_take (i := 26) (oi := _) (v := _) rfl (by kernel_rfl) (by kernel_rfl) (by kernel_rfl) (fun _ _ _ h => h) (Or.inl ⟨by rfl, fun W _ => rfl⟩) (by assumption) ?_
    (try simp only [List.getElem_toArray, List.getElem_cons_succ, List.getElem_cons_zero, Act.put, List.setIfInBounds_toArray, List.set_cons_zero, List.set_cons_succ])
    refine wpAnyH_take (i := 27) (oi := _) (v := .agg #[.int .u64 x.uid, .slice x.fa x.fn x.fc, .int .u64 x.md, .string x.hash, .int .u64 x.size, .int .u64 p.seq, .int .u64 p.mostSeq, .int .u64 p.mostUid, .string s]) rfl (by kernel_rfl) (by kernel_rfl) (by kernel_rfl) (fun _ _ _ h => h) (Or.inl ⟨by rfl, fun W hW => by unfold LogicS at hW; obtain ⟨q0, q1, q2, q3, q4, q5, q6, q7, q8, -⟩ := hW; go_simp⟩) (by assumption) ?_
    (try simp only [List.getElem_toArray, List.getElem_cons_succ, List.getElem_cons_zero, Act.put, List.setIfInBounds_toArray, List.set_cons_zero, List.set_cons_succ])
    refine wpAnyH_ready (rs := [25]) (by kernel_rfl) (by simp) ?_
    refine AllReadyH.cons rfl (fun K hK => ?_) AllReadyH.nil
    go_simp
    refine (hcall.out _ _ (by assumption) _ (by assumption)).mono ?_
    rintro e w7 ⟨rfl, h7⟩
    refine hK.out _ _ (hS.out _ _ h7) (fun hHeld => ?_)
    clear hK K
    (try simp only [List.getElem_toArray, List.getElem_cons_succ, List.getElem_cons_zero, Act.put, List.setIfInBounds_toArray, List.set_cons_zero, List.set_cons_succ])
    refine wpAnyH_ready (rs := [28]) (by kernel_rfl) (by simp) ?_
    refine AllReadyH.cons rfl (fun K hK => ?_) AllReadyH.nil
    go_simp
    refine (hcall.out _ _ (by assumption) _ (by assumption)).mono ?_
    rintro e w7 ⟨rfl, h7⟩
    refine hK.out _ _ (hS.out _ _ h7) (fun hHeld => ?_)
    clear hK K
    (try simp only [List.getElem_toArray, List.getElem_cons_succ, List.getElem_cons_zero, Act.put, List.setIfInBounds_toArray, List.set_cons_zero, List.set_cons_succ])
    refine wpAnyH_take (i := 29) (oi := _) (v := _) rfl (by kernel_rfl) (by kernel_rfl) (by kernel_rfl) (fun _ _ _ h => h) (Or.inl ⟨by rfl, fun W _ => rfl⟩) (by assumption) ?_
    (try simp only [List.getElem_toArray, List.getElem_cons_succ, List.getElem_cons_zero, Act.put, List.setIfInBounds_toArray, List.set_cons_zero, List.set_cons_succ])
    refine wpAnyH_take (i := 30) (oi := _) (v := _) rfl (by kernel_rfl) (by kernel_rfl) (by kernel_rfl) (fun _ _ _ h => h) (Or.inr ⟨by rfl, rfl⟩) (by assumption) ?_
    (try simp only [List.getElem_toArray, List.getElem_cons_succ, List.getElem_cons_zero, Act.put, List.setIfInBounds_toArray, List.set_cons_zero, List.set_cons_succ])
    refine wpAnyH_take (i := 31) (oi := _) (v := _) rfl (by kernel_rfl) (by kernel_rfl) (by kernel_rfl) (fun _ _ _ h => h) (Or.inr ⟨by rfl, rfl⟩) (by assumption) ?_
    (try simp only [List.getElem_toArray, List.getElem_cons_succ, List.getElem_cons_zero, Act.put, List.setIfInBounds_toArray, List.set_cons_zero, List.set_cons_succ])
    refine wpAnyH_take (i := 32) (oi := _) (v := _) rfl (by kernel_rfl) (by kernel_rfl) (by kernel_rfl) (fun _ _ _ h => h) (Or.inr ⟨by rfl, rfl⟩) (by assumption) ?_
    (try simp only [List.getElem_toArray, List.getElem_cons_succ, List.getElem_cons_zero, Act.put, List.setIfInBounds_toArray, List.set_cons_zero, List.set_cons_succ])
    refine wpAnyH_take (i := 33) (oi := _) (v := _) rfl (by kernel_rfl) (by kernel_rfl) (by kernel_rfl) (fun _ _ _ h => h) (Or.inl ⟨by rfl, fun W _ => rfl⟩) (by assumption) ?_
    (try simp only [List.getElem_toArray, List.getElem_cons_succ, List.getElem_cons_zero, Act.put, List.setIfInBounds_toArray, List.set_cons_zero, List.set_cons_succ])
    refine wpAnyH_take (i := 34) (oi := _) (v := _) rfl (by kernel_rfl) (by kernel_rfl) (by kernel_rfl) (fun _ _ _ h => h) (Or.inl ⟨by rfl, fun W _ => rfl⟩) (by assumption) ?_
    (try simp only [List.getElem_toArray, List.getElem_cons_succ, List.getElem_cons_zero, Act.put, List.setIfInBounds_toArray, List.set_cons_zero, List.set_cons_succ])
    refine wpAnyH_take (i := 35) (oi := _) (v := _) rfl (by kernel_rfl) (by kernel_rfl) (by kernel_rfl) (fun _ _ _ h => h) (Or.inl ⟨by rfl, fun W _ => rfl⟩) (by assumption) ?_
    (try simp only [List.getElem_toArray, List.getElem_cons_succ, List.getElem_cons_zero, Act.put, List.setIfInBounds_toArray, List.set_cons_zero, List.set_cons_succ])
    refine wpAnyH_take (i := 36) (oi := _) (v := _) rfl (by kernel_rfl) (by kernel_rfl) (by kernel_rfl) (fun _ _ _ h => h) (Or.inl ⟨by rfl, fun W _ => rfl⟩) (by assumption) ?_
    (try simp only [List.getElem_toArray, List.getElem_cons_succ, List.getElem_cons_zero, Act.put, List.setIfInBounds_toArray, List.set_cons_zero, List.set_cons_succ])
    refine wpAnyH_take (i := 37) (oi := _) (v := _) rfl (by kernel_rfl) (by kernel_rfl) (by kernel_rfl) (fun _ _ _ h => h) (Or.inl ⟨by rfl, fun W _ => rfl⟩) (by assumption) ?_
    (try simp only [List.getElem_toArray, List.getElem_cons_succ, List.getElem_cons_zero, Act.put, List.setIfInBounds_toArray, List.set_cons_zero, List.set_cons_succ])
    refine wpAnyH_take (i := 38) (oi := _) (v := .agg #[.int .u64 x.uid, .slice x.fa x.fn x.fc, .int .u64 x.md, .string x.hash, .int .u64 x.size, .int .u64 p.seq, .int .u64 p.mostSeq, .int .u64 p.mostUid, .string s]) rfl (by kernel_rfl) (by kernel_rfl) (by kernel_rfl) (fun _ _ _ h => h) (Or.inl ⟨by rfl, fun W hW => by unfold LogicS at hW; obtain ⟨q0, q1, q2, q3, q4, q5, q6, q7, q8, -⟩ := hW; go_simp⟩) (by assumption) ?_
    (try simp only [List.getElem_toArray, List.getElem_cons_succ, List.getElem_cons_zero, Act.put, List.setIfInBounds_toArray, List.set_cons_zero, List.set_cons_succ])
    refine wpAnyH_take (i := 40) (oi := _) (v := _) rfl (by kernel_rfl) (by kernel_rfl) (by kernel_rfl) (fun _ _ _ h => h) (Or.inl ⟨by rfl, fun W _ => rfl⟩) (by assumption) ?_
    (try simp only [List.getElem_toArray, List.getElem_cons_succ, List.getElem_cons_zero, Act.put, List.setIfInBounds_toArray, List.set_cons_zero, List.set_cons_succ])
    refine wpAnyH_take (i := 41) (oi := _) (v := .agg #[.int .u64 x.uid, .slice x.fa x.fn x.fc, .int .u64 x.md, .string x.hash, .int .u64 x.size, .int .u64 p.seq, .int .u64 p.mostSeq, .int .u64 p.mostUid, .string s]) rfl (by kernel_rfl) (by kernel_rfl) (by kernel_rfl) (fun _ _ _ h => h) (Or.inl ⟨by rfl, fun W hW => by unfold LogicS at hW; obtain ⟨q0, q1, q2, q3, q4, q5, q6, q7, q8, -⟩ := hW; go_simp⟩) (by assumption) ?_
    (try simp only [List.getElem_toArray, List.getElem_cons_succ, List.getElem_cons_zero, Act.put, List.setIfInBounds_toArray, List.set_cons_zero, List.set_cons_succ])
    refine wpAnyH_ready (rs := [39]) (by kernel_rfl) (by simp) ?_
    refine AllReadyH.cons rfl (fun K hK => ?_) AllReadyH.nil
    go_simp
    refine (hcall.out _ _ (by assumption) _ (by assumption)).mono ?_
    rintro e w7 ⟨rfl, h7⟩
    refine hK.out _ _ (hS.out _ _ h7) (fun hHeld => ?_)
    clear hK K
    (try simp only [List.getElem_toArray, List.getElem_cons_succ, List.getElem_cons_zero, Act.put, List.setIfInBounds_toArray, List.set_cons_zero, List.set_cons_succ])
    refine wpAnyH_ready (rs := [42]) (by kernel_rfl) (by simp) ?_
    refine AllReadyH.cons rfl (fun K hK => ?_) AllReadyH.nil
    go_simp
    refine (hcall.out _ _ (by assumption) _ (by assumption)).mono ?_
    rintro e w7 ⟨rfl, h7⟩
    refine hK.out _ _ (hS.out _ _ h7) (fun hHeld => ?_)
    clear hK K
    (try simp only [List.getElem_toArray, List.getElem_cons_succ, List.getElem_cons_zero, Act.put, List.setIfInBounds_toArray, List.set_cons_zero, List.set_cons_succ])
    refine wpAnyH_take (i := 43) (oi := _) (v := _) rfl (by kernel_rfl) (by kernel_rfl) (by kernel_rfl) (fun _ _ _ h => h) (Or.inl ⟨by rfl, fun W _ => rfl⟩) (by assumption) ?_
    (try simp only [List.getElem_toArray, List.getElem_cons_succ, List.getElem_cons_zero, Act.put, List.setIfInBounds_toArray, List.set_cons_zero, List.set_cons_succ])
    refine wpAnyH_take (i := 44) (oi := _) (v := _) rfl (by kernel_rfl) (by kernel_rfl) (by kernel_rfl) (fun _ _ _ h => h) (Or.inl ⟨by rfl, fun W _ => rfl⟩) (by assumption) ?_
    (try simp only [List.getElem_toArray, List.getElem_cons_succ, List.getElem_cons_zero, Act.put, List.setIfInBounds_toArray, List.set_cons_zero, List.set_cons_succ])
    refine wpAnyH_take (i := 45) (oi := _) (v := _) rfl (by kernel_rfl) (by kernel_rfl) (by kernel_rfl) (fun _ _ _ h => h) (Or.inl ⟨by rfl, fun W _ => rfl⟩) (by assumption) ?_
    (try simp only [List.getElem_toArray, List.getElem_cons_succ, List.getElem_cons_zero, Act.put, List.setIfInBounds_toArray, List.set_cons_zero, List.set_cons_succ])
    refine wpAnyH_done (by kernel_rfl) ?_ _
    go_wp2_with fail
    go_ret
    exact ⟨rfl, h7.1.1⟩
  · replace t1 : Said tab vs false := t1
    replace t2 : Said tab vr false := t2
    replace t3 : Said tab vd false := t3
    replace t4 : Said tab vo true := t4
    replace t5 : Said tab vn true := t5
    refine wp_region_held_drew (S := LogicS w x p s C l) hmx (hS.out _ _ h18d) (fun hHeld => ?_)
    refine wpAnyH_take (i := 0) (oi := _) (v := _) rfl (by kernel_rfl) (by kernel_rfl) (by kernel_rfl) (fun _ _ _ h => h) (Or.inl ⟨by rfl, fun W _ => rfl⟩) (by assumption) ?_
    (try simp only [List.getElem_toArray, List.getElem_cons_succ, List.getElem_cons_zero, Act.put, List.setIfInBounds_toArray, List.set_cons_zero, List.set_cons_succ])
    refine wpAnyH_take (i := 1) (oi := _) (v := .agg #[.int .u64 x.uid, .slice x.fa x.fn x.fc, .int .u64 x.md, .string x.hash, .int .u64 x.size, .int .u64 p.seq, .int .u64 p.mostSeq, .int .u64 p.mostUid, .string s]) rfl (by kernel_rfl) (by kernel_rfl) (by kernel_rfl) (fun _ _ _ h => h) (Or.inl ⟨by rfl, fun W hW => by unfold LogicS at hW; obtain ⟨q0, q1, q2, q3, q4, q5, q6, q7, q8, -⟩ := hW; go_simp⟩) (by assumption) ?_
    (try simp only [List.getElem_toArray, List.getElem_cons_succ, List.getElem_cons_zero, Act.put, List.setIfInBounds_toArray, List.set_cons_zero, List.set_cons_succ])
    refine wpAnyH_take (i := 3) (oi := _) (v := _) rfl (by kernel_rfl) (by kernel_rfl) (by kernel_rfl) (fun _ _ _ h => h) (Or.inl ⟨by rfl, fun W _ => rfl⟩) (by assumption) ?_
    (try simp only [List.getElem_toArray, List.getElem_cons_succ, List.getElem_cons_zero, Act.put, List.setIfInBounds_toArray, List.set_cons_zero, List.set_cons_succ])
    refine wpAnyH_take (i := 4) (oi := _) (v := .agg #[.int .u64 x.uid, .slice x.fa x.fn x.fc, .int .u64 x.md, .string x.hash, .int .u64 x.size, .int .u64 p.seq, .int .u64 p.mostSeq, .int .u64 p.mostUid, .string s]) rfl (by kernel_rfl) (by kernel_rfl) (by kernel_rfl) (fun _ _ _ h => h) (Or.inl ⟨by rfl, fun W hW => by unfold LogicS at hW; obtain ⟨q0, q1, q2, q3, q4, q5, q6, q7, q8, -⟩ := hW; go_simp⟩) (by assumption) ?_
    (try simp only [List.getElem_toArray, List.getElem_cons_succ, List.getElem_cons_zero, Act.put, List.setIfInBounds_toArray, List.set_cons_zero, List.set_cons_succ])
    refine wpAnyH_ready (rs := [2]) (by kernel_rfl) (by simp) ?_
    refine AllReadyH.cons rfl (fun K hK => ?_) AllReadyH.nil
    go_simp
    refine (hcall.out _ _ (by assumption) _ (by assumption)).mono ?_
    rintro e w7 ⟨rfl, h7⟩
    refine hK.out _ _ (hS.out _ _ h7) (fun hHeld => ?_)
    clear hK K
    (try simp only [List.getElem_toArray, List.getElem_cons_succ, List.getElem_cons_zero, Act.put, List.setIfInBounds_toArray, List.set_cons_zero, List.set_cons_succ])
    refine wpAnyH_ready (rs := [5]) (by kernel_rfl) (by simp) ?_
    refine AllReadyH.cons rfl (fun K hK => ?_) AllReadyH.nil
    go_simp
    refine (hcall.out _ _ (by assumption) _ (by assumption)).mono ?_
    rintro e w7 ⟨rfl, h7⟩
    refine hK.out _ _ (hS.out _ _ h7) (fun hHeld => ?_)
    clear hK K
    (try simp only [List.getElem_toArray, List.getElem_cons_succ, List.getElem_cons_zero, Act.put, List.setIfInBounds_toArray, List.set_cons_zero, List.set_cons_succ])
    refine wpAnyH_take (i := 6) (oi := _) (v := _) rfl (by kernel_rfl) (by kernel_rfl) (by kernel_rfl) (fun _ _ _ h => h) (Or.inl ⟨by rfl, fun W _ => rfl⟩) (by assumption) ?_
    (try simp only [List.getElem_toArray, List.getElem_cons_succ, List.getElem_cons_zero, Act.put, List.setIfInBounds_toArray, List.set_cons_zero, List.set_cons_succ])
    refine wpAnyH_take (i := 7) (oi := _) (v := _) rfl (by kernel_rfl) (by kernel_rfl) (by kernel_rfl) (fun _ _ _ h => h) (Or.inl ⟨by rfl, fun W _ => rfl⟩) (by assumption) ?_
    (try simp only [List.getElem_toArray, List.getElem_cons_succ, List.getElem_cons_zero, Act.put, List.setIfInBounds_toArray, List.set_cons_zero, List.set_cons_succ])
    refine wpAnyH_take (i := 8) (oi := _) (v := _) rfl (by kernel_rfl) (by kernel_rfl) (by kernel_rfl) (fun _ _ _ h => h) (Or.inl ⟨by rfl, fun W _ => rfl⟩) (by assumption) ?_
    (try simp only [List.getElem_toArray, List.getElem_cons_succ, List.getElem_cons_zero, Act.put, List.setIfInBounds_toArray, List.set_cons_zero, List.set_cons_succ])
    refine wpAnyH_take (i := 9) (oi := _) (v := _) rfl (by kernel_rfl) (by kernel_rfl) (by kernel_rfl) (fun _ _ _ h => h) (Or.inl ⟨by rfl, fun W _ => rfl⟩) (by assumption) ?_
    (try simp only [List.getElem_toArray, List.getElem_cons_succ, List.getElem_cons_zero, Act.put, List.setIfInBounds_toArray, List.set_cons_zero, List.set_cons_succ])
    refine wpAnyH_take (i := 10) (oi := _) (v := .agg #[.int .u64 x.uid, .slice x.fa x.fn x.fc, .int .u64 x.md, .string x.hash, .int .u64 x.size, .int .u64 p.seq, .int .u64 p.mostSeq, .int .u64 p.mostUid, .string s]) rfl (by kernel_rfl) (by kernel_rfl) (by kernel_rfl) (fun _ _ _ h => h) (Or.inl ⟨by rfl, fun W hW => by unfold LogicS at hW; obtain ⟨q0, q1, q2, q3, q4, q5, q6, q7, q8, -⟩ := hW; go_simp⟩) (by assumption) ?_
    (try simp only [List.getElem_toArray, List.getElem_cons_succ, List.getElem_cons_zero, Act.put, List.setIfInBounds_toArray, List.set_cons_zero, List.set_cons_succ])
    refine wpAnyH_take (i := 12) (oi := _) (v := _) rfl (by kernel_rfl) (by kernel_rfl) (by kernel_rfl) (fun _ _ _ h => h) (Or.inl ⟨by rfl, fun W _ => rfl⟩) (by assumption) ?_
    (try simp only [List.getElem_toArray, List.getElem_cons_succ, List.getElem_cons_zero, Act.put, List.setIfInBounds_toArray, List.set_cons_zero, List.set_cons_succ])
    refine wpAnyH_take (i := 13) (oi := _) (v := .agg #[.int .u64 x.uid, .slice x.fa x.fn x.fc, .int .u64 x.md, .string x.hash, .int .u64 x.size, .int .u64 p.seq, .int .u64 p.mostSeq, .int .u64 p.mostUid, .string s]) rfl (by kernel_rfl) (by kernel_rfl) (by kernel_rfl) (fun _ _ _ h => h) (Or.inl ⟨by rfl, fun W hW => by unfold LogicS at hW; obtain ⟨q0, q1, q2, q3, q4, q5, q6, q7, q8, -⟩ := hW; go_simp⟩) (by assumption) ?_
    (try simp only [List.getElem_toArray, List.getElem_cons_succ, List.getElem_cons_zero, Act.put, List.setIfInBounds_toArray, List.set_cons_zero, List.set_cons_succ])
    refine wpAnyH_ready (rs := [11]) (by kernel_rfl) (by simp) ?_
    refine AllReadyH.cons rfl (fun K hK => ?_) AllReadyH.nil
    go_simp
    refine (hcall.out _ _ (by assumption) _ (by assumption)).mono ?_
    rintro e w7 ⟨rfl, h7⟩
    refine hK.out _ _ (hS.out _ _ h7) (fun hHeld => ?_)
    clear hK K
    (try simp only [List.getElem_toArray, List.getElem_cons_succ, List.getElem_cons_zero, Act.put, List.setIfInBounds_toArray, List.set_cons_zero, List.set_cons_succ])
    refine wpAnyH_ready (rs := [14]) (by kernel_rfl) (by simp) ?_
    refine AllReadyH.cons rfl (fun K hK => ?_) AllReadyH.nil
    go_simp
    refine (hcall.out _ _ (by assumption) _ (by assumption)).mono ?_
    rintro e w7 ⟨rfl, h7⟩
    refine hK.out _ _ (hS.out _ _ h7) (fun hHeld => ?_)
    clear hK K
    (try simp only [List.getElem_toArray, List.getElem_cons_succ, List.getElem_cons_zero, Act.put, List.setIfInBounds_toArray, List.set_cons_zero, List.set_cons_succ])
    refine wpAnyH_take (i := 15) (oi := _) (v := _) rfl (by kernel_rfl) (by kernel_rfl) (by kernel_rfl) (fun _ _ _ h => h) (Or.inl ⟨by rfl, fun W _ => rfl⟩) (by assumption) ?_
    (try simp only [List.getElem_toArray, List.getElem_cons_succ, List.getElem_cons_zero, Act.put, List.setIfInBounds_toArray, List.set_cons_zero, List.set_cons_succ])
    refine wpAnyH_take (i := 16) (oi := _) (v := _) rfl (by kernel_rfl) (by kernel_rfl) (by kernel_rfl) (fun _ _ _ h => h) (Or.inl ⟨by rfl, fun W _ => rfl⟩) (by assumption) ?_
    (try simp only [List.getElem_toArray, List.getElem_cons_succ, List.getElem_cons_zero, Act.put, List.setIfInBounds_toArray, List.set_cons_zero, List.set_cons_succ])
    refine wpAnyH_take (i := 17) (oi := _) (v := .agg #[.int .u64 x.uid, .slice x.fa x.fn x.fc, .int .u64 x.md, .string x.hash, .int .u64 x.size, .int .u64 p.seq, .int .u64 p.mostSeq, .int .u64 p.mostUid, .string s]) rfl (by kernel_rfl) (by kernel_rfl) (by kernel_rfl) (fun _ _ _ h => h) (Or.inl ⟨by rfl, fun W hW => by unfold LogicS at hW; obtain ⟨q0, q1, q2, q3, q4, q5, q6, q7, q8, -⟩ := hW; go_simp⟩) (by assumption) ?_
    (try simp only [List.getElem_toArray, List.getElem_cons_succ, List.getElem_cons_zero, Act.put, List.setIfInBounds_toArray, List.set_cons_zero, List.set_cons_succ])
    refine wpAnyH_ready (rs := [18]) (by kernel_rfl) (by simp) ?_
    refine AllReadyH.cons rfl (fun K hK => ?_) AllReadyH.nil
    go_simp
    refine (hcall.out _ _ (by assumption) _ (by assumption)).mono ?_
    rintro e w7 ⟨rfl, h7⟩
    refine hK.out _ _ (hS.out _ _ h7) (fun hHeld => ?_)
    clear hK K
    (try simp only [List.getElem_toArray, List.getElem_cons_succ, List.getElem_cons_zero, Act.put, List.setIfInBounds_toArray, List.set_cons_zero, List.set_cons_succ])
    refine wpAnyH_take (i := 19) (oi := _) (v := _) rfl (by kernel_rfl) (by kernel_rfl) (by kernel_rfl) (fun _ _ _ h => h) (Or.inl ⟨by rfl, fun W _ => rfl⟩) (by assumption) ?_
    (try simp only [List.getElem_toArray, List.getElem_cons_succ, List.getElem_cons_zero, Act.put, List.setIfInBounds_toArray, List.set_cons_zero, List.set_cons_succ])
    refine wpAnyH_take (i := 20) (oi := _) (v := _) rfl (by kernel_rfl) (by kernel_rfl) (by kernel_rfl) (fun _ _ _ h => h) (Or.inl ⟨by rfl, fun W _ => rfl⟩) (by assumption) ?_
    (try simp only [List.getElem_toArray, List.getElem_cons_succ, List.getElem_cons_zero, Act.put, List.setIfInBounds_toArray, List.set_cons_zero, List.set_cons_succ])
    refine wpAnyH_take (i := 21) (oi := _) (v := _) rfl (by kernel_rfl) (by kernel_rfl) (by kernel_rfl) (fun _ _ _ h => h) (Or.inl ⟨by rfl, fun W _ => rfl⟩) (by assumption) ?_
    (try simp only [List.getElem_toArray, List.getElem_cons_succ, List.getElem_cons_zero, Act.put, List.setIfInBounds_toArray, List.set_cons_zero, List.set_cons_succ])
    refine wpAnyH_take (i := 22) (oi := _) (v := _) rfl (by kernel_rfl) (by kernel_rfl) (by kernel_rfl) (fun _ _ _ h => h) (Or.inl ⟨by rfl, fun W _ => rfl⟩) (by assumption) ?_
    (try simp only [List.getElem_toArray, List.getElem_cons_succ, List.getElem_cons_zero, Act.put, List.setIfInBounds_toArray, List.set_cons_zero, List.set_cons_succ])
    refine wpAnyH_take (i := 23) (oi := _) (v := _) rfl (by kernel_rfl) (by kernel_rfl) (by kernel_rfl) (fun _ _ _ h => h) (Or.inl ⟨by rfl, fun W _ => rfl⟩) (by assumption) ?_
    (try simp only [List.getElem_toArray, List.getElem_cons_succ, List.getElem_cons_zero, Act.put, List.setIfInBounds_toArray, List.set_cons_zero, List.set_cons_succ])
    refine wpAnyH_take (i := 24) (oi := _) (v := .agg #[.int .u64 x.uid, .slice x.fa x.fn x.fc, .int .u64 x.md, .string x.hash, .int .u64 x.size, .int .u64 p.seq, .int .u64 p.mostSeq, .int .u64 p.mostUid, .string s]) rfl (by kernel_rfl) (by kernel_rfl) (by kernel_rfl) (fun _ _ _ h => h) (Or.inl ⟨by rfl, fun W hW => by unfold LogicS at hW; obtain ⟨q0, q1, q2, q3, q4, q5, q6, q7, q8, -⟩ := hW; go_simp⟩) (by assumption) ?_
    (try simp only [List.getElem_toArray, List.getElem_cons_succ, List.getElem_cons_zero, Act.put, List.setIfInBounds_toArray, List.set_cons_zero, List.set_cons_succ])
    refine wpAnyH_take (i := 26) (oi := _) (v := _) rfl (by kernel_rfl) (by kernel_rfl) (by kernel_rfl) (fun _ _ _ h => h) (Or.inl ⟨by rfl, fun W _ => rfl⟩) (by assumption) ?_
    (try simp only [List.getElem_toArray, List.getElem_cons_succ, List.getElem_cons_zero, Act.put, List.setIfInBounds_toArray, List.set_cons_zero, List.set_cons_succ])
    refine wpAnyH_take (i := 27) (oi := _) (v := .agg #[.int .u64 x.uid, .slice x.fa x.fn x.fc, .int .u64 x.md, .string x.hash, .int .u64 x.size, .int .u64 p.seq, .int .u64 p.mostSeq, .int .u64 p.mostUid, .string s]) rfl (by kernel_rfl) (by kernel_rfl) (by kernel_rfl) (fun _ _ _ h => h) (Or.inl ⟨by rfl, fun W hW => by unfold LogicS at hW; obtain ⟨q0, q1, q2, q3, q4, q5, q6, q7, q8, -⟩ := hW; go_simp⟩) (by assumption) ?_
    (try simp only [List.getElem_toArray, List.getElem_cons_succ, List.getElem_cons_zero, Act.put, List.setIfInBounds_toArray, List.set_cons_zero, List.set_cons_succ])
    refine wpAnyH_ready (rs := [25]) (by kernel_rfl) (by simp) ?_
    refine AllReadyH.cons rfl (fun K hK => ?_) AllReadyH.nil
    go_simp
    refine (hcall.out _ _ (by assumption) _ (by assumption)).mono ?_
    rintro e w7 ⟨rfl, h7⟩
    refine hK.out _ _ (hS.out _ _ h7) (fun hHeld => ?_)
    clear hK K
    (try simp only [List.getElem_toArray, List.getElem_cons_succ, List.getElem_cons_zero, Act.put, List.setIfInBounds_toArray, List.set_cons_zero, List.set_cons_succ])
    refine wpAnyH_ready (rs := [28]) (by kernel_rfl) (by simp) ?_
    refine AllReadyH.cons rfl (fun K hK => ?_) AllReadyH.nil
    go_simp
    refine (hcall.out _ _ (by assumption) _ (by assumption)).mono ?_
    rintro e w7 ⟨rfl, h7⟩
    refine hK.out _ _ (hS.out _ _ h7) (fun hHeld => ?_)
    clear hK K
    (try simp only [List.getElem_toArray, List.getElem_cons_succ, List.getElem_cons_zero, Act.put, List.setIfInBounds_toArray, List.set_cons_zero, List.set_cons_succ])
    refine wpAnyH_take (i := 29) (oi := _) (v := _) rfl (by kernel_rfl) (by kernel_rfl) (by kernel_rfl) (fun _ _ _ h => h) (Or.inl ⟨by rfl, fun W _ => rfl⟩) (by assumption) ?_
    (try simp only [List.getElem_toArray, List.getElem_cons_succ, List.getElem_cons_zero, Act.put, List.setIfInBounds_toArray, List.set_cons_zero, List.set_cons_succ])
    refine wpAnyH_take (i := 30) (oi := _) (v := _) rfl (by kernel_rfl) (by kernel_rfl) (by kernel_rfl) (fun _ _ _ h => h) (Or.inr ⟨by rfl, rfl⟩) (by assumption) ?_
    (try simp only [List.getElem_toArray, List.getElem_cons_succ, List.getElem_cons_zero, Act.put, List.setIfInBounds_toArray, List.set_cons_zero, List.set_cons_succ])
    refine wpAnyH_take (i := 31) (oi := _) (v := _) rfl (by kernel_rfl) (by kernel_rfl) (by kernel_rfl) (fun _ _ _ h => h) (Or.inr ⟨by rfl, rfl⟩) (by assumption) ?_
    (try simp only [List.getElem_toArray, List.getElem_cons_succ, List.getElem_cons_zero, Act.put, List.setIfInBounds_toArray, List.set_cons_zero, List.set_cons_succ])
    refine wpAnyH_take (i := 32) (oi := _) (v := _) rfl (by kernel_rfl) (by kernel_rfl) (by kernel_rfl) (fun _ _ _ h => h) (Or.inr ⟨by rfl, rfl⟩) (by assumption) ?_
    (try simp only [List.getElem_toArray, List.getElem_cons_succ, List.getElem_cons_zero, Act.put, List.setIfInBounds_toArray, List.set_cons_zero, List.set_cons_succ])
    refine wpAnyH_take (i := 33) (oi := _) (v := _) rfl (by kernel_rfl) (by kernel_rfl) (by kernel_rfl) (fun _ _ _ h => h) (Or.inl ⟨by rfl, fun W _ => rfl⟩) (by assumption) ?_
    (try simp only [List.getElem_toArray, List.getElem_cons_succ, List.getElem_cons_zero, Act.put, List.setIfInBounds_toArray, List.set_cons_zero, List.set_cons_succ])
    refine wpAnyH_take (i := 34) (oi := _) (v := _) rfl (by kernel_rfl) (by kernel_rfl) (by kernel_rfl) (fun _ _ _ h => h) (Or.inl ⟨by rfl, fun W _ => rfl⟩) (by assumption) ?_
    (try simp only [List.getElem_toArray, List.getElem_cons_succ, List.getElem_cons_zero, Act.put, List.setIfInBounds_toArray, List.set_cons_zero, List.set_cons_succ])
    refine wpAnyH_take (i := 35) (oi := _) (v := _) rfl (by kernel_rfl) (by kernel_rfl) (by kernel_rfl) (fun _ _ _ h => h) (Or.inl ⟨by rfl, fun W _ => rfl⟩) (by assumption) ?_
    (try simp only [List.getElem_toArray, List.getElem_cons_succ, List.getElem_cons_zero, Act.put, List.setIfInBounds_toArray, List.set_cons_zero, List.set_cons_succ])
    refine wpAnyH_take (i := 36) (oi := _) (v := _) rfl (by kernel_rfl) (by kernel_rfl) (by kernel_rfl) (fun _ _ _ h => h) (Or.inl ⟨by rfl, fun W _ => rfl⟩) (by assumption) ?_
    (try simp only [List.getElem_toArray, List.getElem_cons_succ, List.getElem_cons_zero, Act.put, List.setIfInBounds_toArray, List.set_cons_zero, List.set_cons_succ])
    refine wpAnyH_take (i := 37) (oi := _) (v := _) rfl (by kernel_rfl) (by kernel_rfl) (by kernel_rfl) (fun _ _ _ h => h) (Or.inl ⟨by rfl, fun W _ => rfl⟩) (by assumption) ?_
    (try simp only [List.getElem_toArray, List.getElem_cons_succ, List.getElem_cons_zero, Act.put, List.setIfInBounds_toArray, List.set_cons_zero, List.set_cons_succ])
    refine wpAnyH_take (i := 38) (oi := _) (v := .agg #[.int .u64 x.uid, .slice x.fa x.fn x.fc, .int .u64 x.md, .string x.hash, .int .u64 x.size, .int .u64 p.seq, .int .u64 p.mostSeq, .int .u64 p.mostUid, .string s]) rfl (by kernel_rfl) (by kernel_rfl) (by kernel_rfl) (fun _ _ _ h => h) (Or.inl ⟨by rfl, fun W hW => by unfold LogicS at hW; obtain ⟨q0, q1, q2, q3, q4, q5, q6, q7, q8, -⟩ := hW; go_simp⟩) (by assumption) ?_
    (try simp only [List.getElem_toArray, List.getElem_cons_succ, List.getElem_cons_zero, Act.put, List.setIfInBounds_toArray, List.set_cons_zero, List.set_cons_succ])
    refine wpAnyH_take (i := 40) (oi := _) (v := _) rfl (by kernel_rfl) (by kernel_rfl) (by kernel_rfl) (fun _ _ _ h => h) (Or.inl ⟨by rfl, fun W _ => rfl⟩) (by assumption) ?_
    (try simp only [List.getElem_toArray, List.getElem_cons_succ, List.getElem_cons_zero, Act.put, List.setIfInBounds_toArray, List.set_cons_zero, List.set_cons_succ])
    refine wpAnyH_take (i := 41) (oi := _) (v := .agg #[.int .u64 x.uid, .slice x.fa x.fn x.fc, .int .u64 x.md, .string x.hash, .int .u64 x.size, .int .u64 p.seq, .int .u64 p.mostSeq, .int .u64 p.mostUid, .string s]) rfl (by kernel_rfl) (by kernel_rfl) (by kernel_rfl) (fun _ _ _ h => h) (Or.inl ⟨by rfl, fun W hW => by unfold LogicS at hW; obtain ⟨q0, q1, q2, q3, q4, q5, q6, q7, q8, -⟩ := hW; go_simp⟩) (by assumption) ?_
    (try simp only [List.getElem_toArray, List.getElem_cons_succ, List.getElem_cons_zero, Act.put, List.setIfInBounds_toArray, List.set_cons_zero, List.set_cons_succ])
    refine wpAnyH_ready (rs := [39]) (by kernel_rfl) (by simp) ?_
    refine AllReadyH.cons rfl (fun K hK => ?_) AllReadyH.nil
    go_simp
    refine (hcall.out _ _ (by assumption) _ (by assumption)).mono ?_
    rintro e w7 ⟨rfl, h7⟩
    refine hK.out _ _ (hS.out _ _ h7) (fun hHeld => ?_)
    clear hK K
    (try simp only [List.getElem_toArray, List.getElem_cons_succ, List.getElem_cons_zero, Act.put, List.setIfInBounds_toArray, List.set_cons_zero, List.set_cons_succ])
    refine wpAnyH_ready (rs := [42]) (by kernel_rfl) (by simp) ?_
    refine AllReadyH.cons rfl (fun K hK => ?_) AllReadyH.nil
    go_simp
    refine (hcall.out _ _ (by assumption) _ (by assumption)).mono ?_
    rintro e w7 ⟨rfl, h7⟩
    refine hK.out _ _ (hS.out _ _ h7) (fun hHeld => ?_)
    clear hK K
    (try simp only [List.getElem_toArray, List.getElem_cons_succ, List.getElem_cons_zero, Act.put, List.setIfInBounds_toArray, List.set_cons_zero, List.set_cons_succ])
    refine wpAnyH_take (i := 43) (oi := _) (v := _) rfl (by kernel_rfl) (by kernel_rfl) (by kernel_rfl) (fun _ _ _ h => h) (Or.inl ⟨by rfl, fun W _ => rfl⟩) (by assumption) ?_
    (try simp only [List.getElem_toArray, List.getElem_cons_succ, List.getElem_cons_zero, Act.put, List.setIfInBounds_toArray, List.set_cons_zero, List.set_cons_succ])
    refine wpAnyH_take (i := 44) (oi := _) (v := _) rfl (by kernel_rfl) (by kernel_rfl) (by kernel_rfl) (fun _ _ _ h => h) (Or.inl ⟨by rfl, fun W _ => rfl⟩) (by assumption) ?_
    (try simp only [List.getElem_toArray, List.getElem_cons_succ, List.getElem_cons_zero, Act.put, List.setIfInBounds_toArray, List.set_cons_zero, List.set_cons_succ])
    refine wpAnyH_take (i := 45) (oi := _) (v := _) rfl (by kernel_rfl) (by kernel_rfl) (by kernel_rfl) (fun _ _ _ h => h) (Or.inl ⟨by rfl, fun W _ => rfl⟩) (by assumption) ?_
    (try simp only [List.getElem_toArray, List.getElem_cons_succ, List.getElem_cons_zero, Act.put, List.setIfInBounds_toArray, List.set_cons_zero, List.set_cons_succ])
    refine wpAnyH_done (by kernel_rfl) ?_ _
    go_wp2_with fail
    go_ret
    exact ⟨rfl, h7.1.1⟩
  · replace t1 : Said tab vs false := t1
    replace t2 : Said tab vr false := t2
    replace t3 : Said tab vd false := t3
    replace t4 : Said tab vo true := t4
    replace t5 : Said tab vn false := t5
    refine wp_region_held_drew (S := LogicS w x p s C l) hmx (hS.out _ _ h18d) (fun hHeld => ?_)
    refine wpAnyH_take (i := 0) (oi := _) (v := _) rfl (by kernel_rfl) (by kernel_rfl) (by kernel_rfl) (fun _ _ _ h => h) (Or.inl ⟨by rfl, fun W _ => rfl⟩) (by assumption) ?_
    (try simp only [List.getElem_toArray, List.getElem_cons_succ, List.getElem_cons_zero, Act.put, List.setIfInBounds_toArray, List.set_cons_zero, List.set_cons_succ])
    refine wpAnyH_take (i := 1) (oi := _) (v := .agg #[.int .u64 x.uid, .slice x.fa x.fn x.fc, .int .u64 x.md, .string x.hash, .int .u64 x.size, .int .u64 p.seq, .int .u64 p.mostSeq, .int .u64 p.mostUid, .string s]) rfl (by kernel_rfl) (by kernel_rfl) (by kernel_rfl) (fun _ _ _ h => h) (Or.inl ⟨by rfl, fun W hW => by unfold LogicS at hW; obtain ⟨q0, q1, q2, q3, q4, q5, q6, q7, q8, -⟩ := hW; go_simp⟩) (by assumption) ?_
    (try simp only [List.getElem_toArray, List.getElem_cons_succ, List.getElem_cons_zero, Act.put, List.setIfInBounds_toArray, List.set_cons_zero, List.set_cons_succ])
    refine wpAnyH_take (i := 3) (oi := _) (v := _) rfl (by kernel_rfl) (by kernel_rfl) (by kernel_rfl) (fun _ _ _ h => h) (Or.inl ⟨by rfl, fun W _ => rfl⟩) (by assumption) ?_
    (try simp only [List.getElem_toArray, List.getElem_cons_succ, List.getElem_cons_zero, Act.put, List.setIfInBounds_toArray, List.set_cons_zero, List.set_cons_succ])
    refine wpAnyH_take (i := 4) (oi := _) (v := .agg #[.int .u64 x.uid, .slice x.fa x.fn x.fc, .int .u64 x.md, .string x.hash, .int .u64 x.size, .int .u64 p.seq, .int .u64 p.mostSeq, .int .u64 p.mostUid, .string s]) rfl (by kernel_rfl) (by kernel_rfl) (by kernel_rfl) (fun _ _ _ h => h) (Or.inl ⟨by rfl, fun W hW => by unfold LogicS at hW; obtain ⟨q0, q1, q2, q3, q4, q5, q6, q7, q8, -⟩ := hW; go_simp⟩) (by assumption) ?_
    (try simp only [List.getElem_toArray, List.getElem_cons_succ, List.getElem_cons_zero, Act.put, List.setIfInBounds_toArray, List.set_cons_zero, List.set_cons_succ])
    refine wpAnyH_ready (rs := [2]) (by kernel_rfl) (by simp) ?_
    refine AllReadyH.cons rfl (fun K hK => ?_) AllReadyH.nil
    go_simp
    refine (hcall.out _ _ (by assumption) _ (by assumption)).mono ?_
    rintro e w7 ⟨rfl, h7⟩
    refine hK.out _ _ (hS.out _ _ h7) (fun hHeld => ?_)
    clear hK K
    (try simp only [List.getElem_toArray, List.getElem_cons_succ, List.getElem_cons_zero, Act.put, List.setIfInBounds_toArray, List.set_cons_zero, List.set_cons_succ])
    refine wpAnyH_ready (rs := [5]) (by kernel_rfl) (by simp) ?_
    refine AllReadyH.cons rfl (fun K hK => ?_) AllReadyH.nil
    go_simp
    refine (hcall.out _ _ (by assumption) _ (by assumption)).mono ?_
    rintro e w7 ⟨rfl, h7⟩
    refine hK.out _ _ (hS.out _ _ h7) (fun hHeld => ?_)
    clear hK K
    (try simp only [List.getElem_toArray, List.getElem_cons_succ, List.getElem_cons_zero, Act.put, List.setIfInBounds_toArray, List.set_cons_zero, List.set_cons_succ])
    refine wpAnyH_take (i := 6) (oi := _) (v := _) rfl (by kernel_rfl) (by kernel_rfl) (by kernel_rfl) (fun _ _ _ h => h) (Or.inl ⟨by rfl, fun W _ => rfl⟩) (by assumption) ?_
    (try simp only [List.getElem_toArray, List.getElem_cons_succ, List.getElem_cons_zero, Act.put, List.setIfInBounds_toArray, List.set_cons_zero, List.set_cons_succ])
    refine wpAnyH_take (i := 7) (oi := _) (v := _) rfl (by kernel_rfl) (by kernel_rfl) (by kernel_rfl) (fun _ _ _ h => h) (Or.inl ⟨by rfl, fun W _ => rfl⟩) (by assumption) ?_
    (try simp only [List.getElem_toArray, List.getElem_cons_succ, List.getElem_cons_zero, Act.put, List.setIfInBounds_toArray, List.set_cons_zero, List.set_cons_succ])
    refine wpAnyH_take (i := 8) (oi := _) (v := _) rfl (by kernel_rfl) (by kernel_rfl) (by kernel_rfl) (fun _ _ _ h => h) (Or.inl ⟨by rfl, fun W _ => rfl⟩) (by assumption) ?_
    (try simp only [List.getElem_toArray, List.getElem_cons_succ, List.getElem_cons_zero, Act.put, List.setIfInBounds_toArray, List.set_cons_zero, List.set_cons_succ])
    refine wpAnyH_take (i := 9) (oi := _) (v := _) rfl (by kernel_rfl) (by kernel_rfl) (by kernel_rfl) (fun _ _ _ h => h) (Or.inl ⟨by rfl, fun W _ => rfl⟩) (by assumption) ?_
    (try simp only [List.getElem_toArray, List.getElem_cons_succ, List.getElem_cons_zero, Act.put, List.setIfInBounds_toArray, List.set_cons_zero, List.set_cons_succ])
    refine wpAnyH_take (i := 10) (oi := _) (v := .agg #[.int .u64 x.uid, .slice x.fa x.fn x.fc, .int .u64 x.md, .string x.hash, .int .u64 x.size, .int .u64 p.seq, .int .u64 p.mostSeq, .int .u64 p.mostUid, .string s]) rfl (by kernel_rfl) (by kernel_rfl) (by kernel_rfl) (fun _ _ _ h => h) (Or.inl ⟨by rfl, fun W hW => by unfold LogicS at hW; obtain ⟨q0, q1, q2, q3, q4, q5, q6, q7, q8, -⟩ := hW; go_simp⟩) (by assumption) ?_
    (try simp only [List.getElem_toArray, List.getElem_cons_succ, List.getElem_cons_zero, Act.put, List.setIfInBounds_toArray, List.set_cons_zero, List.set_cons_succ])
    refine wpAnyH_take (i := 12) (oi := _) (v := _) rfl (by kernel_rfl) (by kernel_rfl) (by kernel_rfl) (fun _ _ _ h => h) (Or.inl ⟨by rfl, fun W _ => rfl⟩) (by assumption) ?_
    (try simp only [List.getElem_toArray, List.getElem_cons_succ, List.getElem_cons_zero, Act.put, List.setIfInBounds_toArray, List.set_cons_zero, List.set_cons_succ])
    refine wpAnyH_take (i := 13) (oi := _) (v := .agg #[.int .u64 x.uid, .slice x.fa x.fn x.fc, .int .u64 x.md, .string x.hash, .int .u64 x.size, .int .u64 p.seq, .int .u64 p.mostSeq, .int .u64 p.mostUid, .string s]) rfl (by kernel_rfl) (by kernel_rfl) (by kernel_rfl) (fun _ _ _ h => h) (Or.inl ⟨by rfl, fun W hW => by unfold LogicS at hW; obtain ⟨q0, q1, q2, q3, q4, q5, q6, q7, q8, -⟩ := hW; go_simp⟩) (by assumption) ?_
    (try simp only [List.getElem_toArray, List.getElem_cons_succ, List.getElem_cons_zero, Act.put, List.setIfInBounds_toArray, List.set_cons_zero, List.set_cons_succ])
    refine wpAnyH_ready (rs := [11]) (by kernel_rfl) (by simp) ?_
    refine AllReadyH.cons rfl (fun K hK => ?_) AllReadyH.nil
    go_simp
    refine (hcall.out _ _ (by assumption) _ (by assumption)).mono ?_
    rintro e w7 ⟨rfl, h7⟩
    refine hK.out _ _ (hS.out _ _ h7) (fun hHeld => ?_)
    clear hK K
    (try simp only [List.getElem_toArray, List.getElem_cons_succ, List.getElem_cons_zero, Act.put, List.setIfInBounds_toArray, List.set_cons_zero, List.set_cons_succ])
    refine wpAnyH_ready (rs := [14]) (by kernel_rfl) (by simp) ?_
    refine AllReadyH.cons rfl (fun K hK => ?_) AllReadyH.nil
    go_simp
    refine (hcall.out _ _ (by assumption) _ (by assumption)).mono ?_
    rintro e w7 ⟨rfl, h7⟩
    refine hK.out _ _ (hS.out _ _ h7) (fun hHeld => ?_)
    clear hK K
    (try simp only [List.getElem_toArray, List.getElem_cons_succ, List.getElem_cons_zero, Act.put, List.setIfInBounds_toArray, List.set_cons_zero, List.set_cons_succ])
    refine wpAnyH_take (i := 15) (oi := _) (v := _) rfl (by kernel_rfl) (by kernel_rfl) (by kernel_rfl) (fun _ _ _ h => h) (Or.inl ⟨by rfl, fun W _ => rfl⟩) (by assumption) ?_
    (try simp only [List.getElem_toArray, List.getElem_cons_succ, List.getElem_cons_zero, Act.put, List.setIfInBounds_toArray, List.set_cons_zero, List.set_cons_succ])
    refine wpAnyH_take (i := 16) (oi := _) (v := _) rfl (by kernel_rfl) (by kernel_rfl) (by kernel_rfl) (fun _ _ _ h => h) (Or.inr ⟨by rfl, rfl⟩) (by assumption) ?_
    (try simp only [List.getElem_toArray, List.getElem_cons_succ, List.getElem_cons_zero, Act.put, List.setIfInBounds_toArray, List.set_cons_zero, List.set_cons_succ])
    refine wpAnyH_take (i := 17) (oi := _) (v := _) rfl (by kernel_rfl) (by kernel_rfl) (by kernel_rfl) (fun _ _ _ h => h) (Or.inr ⟨by rfl, rfl⟩) (by assumption) ?_
    (try simp only [List.getElem_toArray, List.getElem_cons_succ, List.getElem_cons_zero, Act.put, List.setIfInBounds_toArray, List.set_cons_zero, List.set_cons_succ])
    refine wpAnyH_take (i := 18) (oi := _) (v := _) rfl (by kernel_rfl) (by kernel_rfl) (by kernel_rfl) (fun _ _ _ h => h) (Or.inr ⟨by rfl, rfl⟩) (by assumption) ?_
    (try simp only [List.getElem_toArray, List.getElem_cons_succ, List.getElem_cons_zero, Act.put, List.setIfInBounds_toArray, List.set_cons_zero, List.set_cons_succ])
    refine wpAnyH_take (i := 19) (oi := _) (v := _) rfl (by kernel_rfl) (by kernel_rfl) (by kernel_rfl) (fun _ _ _ h => h) (Or.inl ⟨by rfl, fun W _ => rfl⟩) (by assumption) ?_
    (try simp only [List.getElem_toArray, List.getElem_cons_succ, List.getElem_cons_zero, Act.put, List.setIfInBounds_toArray, List.set_cons_zero, List.set_cons_succ])
    refine wpAnyH_take (i := 20) (oi := _) (v := _) rfl (by kernel_rfl) (by kernel_rfl) (by kernel_rfl) (fun _ _ _ h => h) (Or.inl ⟨by rfl, fun W _ => rfl⟩) (by assumption) ?_
    (try simp only [List.getElem_toArray, List.getElem_cons_succ, List.getElem_cons_zero, Act.put, List.setIfInBounds_toArray, List.set_cons_zero, List.set_cons_succ])
    refine wpAnyH_take (i := 21) (oi := _) (v := _) rfl (by kernel_rfl) (by kernel_rfl) (by kernel_rfl) (fun _ _ _ h => h) (Or.inl ⟨by rfl, fun W _ => rfl⟩) (by assumption) ?_
    (try simp only [List.getElem_toArray, List.getElem_cons_succ, List.getElem_cons_zero, Act.put, List.setIfInBounds_toArray, List.set_cons_zero, List.set_cons_succ])
    refine wpAnyH_take (i := 22) (oi := _) (v := _) rfl (by kernel_rfl) (by kernel_rfl) (by kernel_rfl) (fun _ _ _ h => h) (Or.inl ⟨by rfl, fun W _ => rfl⟩) (by assumption) ?_
    (try simp only [List.getElem_toArray, List.getElem_cons_succ, List.getElem_cons_zero, Act.put, List.setIfInBounds_toArray, List.set_cons_zero, List.set_cons_succ])
    refine wpAnyH_take (i := 23) (oi := _) (v := _) rfl (by kernel_rfl) (by kernel_rfl) (by kernel_rfl) (fun _ _ _ h => h) (Or.inl ⟨by rfl, fun W _ => rfl⟩) (by assumption) ?_
    (try simp only [List.getElem_toArray, List.getElem_cons_succ, List.getElem_cons_zero, Act.put, List.setIfInBounds_toArray, List.set_cons_zero, List.set_cons_succ])
    refine wpAnyH_take (i := 24) (oi := _) (v := .agg #[.int .u64 x.uid, .slice x.fa x.fn x.fc, .int .u64 x.md, .string x.hash, .int .u64 x.size, .int .u64 p.seq, .int .u64 p.mostSeq, .int .u64 p.mostUid, .string s]) rfl (by kernel_rfl) (by kernel_rfl) (by kernel_rfl) (fun _ _ _ h => h) (Or.inl ⟨by rfl, fun W hW => by unfold LogicS at hW; obtain ⟨q0, q1, q2, q3, q4, q5, q6, q7, q8, -⟩ := hW; go_simp⟩) (by assumption) ?_
    (try simp only [List.getElem_toArray, List.getElem_cons_succ, List.getElem_cons_zero, Act.put, List.setIfInBounds_toArray, List.set_cons_zero, List.set_cons_succ])
    refine wpAnyH_take (i := 26) (oi := _) (v := _) rfl (by kernel_rfl) (by kernel_rfl) (by kernel_rfl) (fun _ _ _ h => h) (Or.inl ⟨by rfl, fun W _ => rfl⟩) (by assumption) ?_
    (try simp only [List.getElem_toArray, List.getElem_cons_succ, List.getElem_cons_zero, Act.put, List.setIfInBounds_toArray, List.set_cons_zero, List.set_cons_succ])
    refine wpAnyH_take (i := 27) (oi := _) (v := .agg #[.int .u64 x.uid, .slice x.fa x.fn x.fc, .int .u64 x.md, .string x.hash, .int .u64 x.size, .int .u64 p.seq, .int .u64 p.mostSeq, .int .u64 p.mostUid, .string s]) rfl (by kernel_rfl) (by kernel_rfl) (by kernel_rfl) (fun _ _ _ h => h) (Or.inl ⟨by rfl, fun W hW => by unfold LogicS at hW; obtain ⟨q0, q1, q2, q3, q4, q5, q6, q7, q8, -⟩ := hW; go_simp⟩) (by assumption) ?_
    (try simp only [List.getElem_toArray, List.getElem_cons_succ, List.getElem_cons_zero, Act.put, List.setIfInBounds_toArray, List.set_cons_zero, List.set_cons_succ])
    refine wpAnyH_ready (rs := [25]) (by kernel_rfl) (by simp) ?_
    refine AllReadyH.cons rfl (fun K hK => ?_) AllReadyH.nil
    go_simp
    refine (hcall.out _ _ (by assumption) _ (by assumption)).mono ?_
    rintro e w7 ⟨rfl, h7⟩
    refine hK.out _ _ (hS.out _ _ h7) (fun hHeld => ?_)
    clear hK K
    (try simp only [List.getElem_toArray, List.getElem_cons_succ, List.getElem_cons_zero, Act.put, List.setIfInBounds_toArray, List.set_cons_zero, List.set_cons_succ])
    refine wpAnyH_ready (rs := [28]) (by kernel_rfl) (by simp) ?_
    refine AllReadyH.cons rfl (fun K hK => ?_) AllReadyH.nil
    go_simp
    refine (hcall.out _ _ (by assumption) _ (by assumption)).mono ?_
    rintro e w7 ⟨rfl, h7⟩
    refine hK.out _ _ (hS.out _ _ h7) (fun hHeld => ?_)
    clear hK K
    (try simp only [List.getElem_toArray, List.getElem_cons_succ, List.getElem_cons_zero, Act.put, List.setIfInBounds_toArray, List.set_cons_zero, List.set_cons_succ])
    refine wpAnyH_take (i := 29) (oi := _) (v := _) rfl (by kernel_rfl) (by kernel_rfl) (by kernel_rfl) (fun _ _ _ h => h) (Or.inl ⟨by rfl, fun W _ => rfl⟩) (by assumption) ?_
    (try simp only [List.getElem_toArray, List.getElem_cons_succ, List.getElem_cons_zero, Act.put, List.setIfInBounds_toArray, List.set_cons_zero, List.set_cons_succ])
    refine wpAnyH_take (i := 30) (oi := _) (v := _) rfl (by kernel_rfl) (by kernel_rfl) (by kernel_rfl) (fun _ _ _ h => h) (Or.inl ⟨by rfl, fun W _ => rfl⟩) (by assumption) ?_
    (try simp only [List.getElem_toArray, List.getElem_cons_succ, List.getElem_cons_zero, Act.put, List.setIfInBounds_toArray, List.set_cons_zero, List.set_cons_succ])
    refine wpAnyH_take (i := 31) (oi := _) (v := .agg #[.int .u64 x.uid, .slice x.fa x.fn x.fc, .int .u64 x.md, .string x.hash, .int .u64 x.size, .int .u64 p.seq, .int .u64 p.mostSeq, .int .u64 p.mostUid, .string s]) rfl (by kernel_rfl) (by kernel_rfl) (by kernel_rfl) (fun _ _ _ h => h) (Or.inl ⟨by rfl, fun W hW => by unfold LogicS at hW; obtain ⟨q0, q1, q2, q3, q4, q5, q6, q7, q8, -⟩ := hW; go_simp⟩) (by assumption) ?_
    (try simp only [List.getElem_toArray, List.getElem_cons_succ, List.getElem_cons_zero, Act.put, List.setIfInBounds_toArray, List.set_cons_zero, List.set_cons_succ])
    refine wpAnyH_ready (rs := [32]) (by kernel_rfl) (by simp) ?_
    refine AllReadyH.cons rfl (fun K hK => ?_) AllReadyH.nil
    go_simp
    refine (hcall.out _ _ (by assumption) _ (by assumption)).mono ?_
    rintro e w7 ⟨rfl, h7⟩
    refine hK.out _ _ (hS.out _ _ h7) (fun hHeld => ?_)
    clear hK K
    (try simp only [List.getElem_toArray, List.getElem_cons_succ, List.getElem_cons_zero, Act.put, List.setIfInBounds_toArray, List.set_cons_zero, List.set_cons_succ])
    refine wpAnyH_take (i := 33) (oi := _) (v := _) rfl (by kernel_rfl) (by kernel_rfl) (by kernel_rfl) (fun _ _ _ h => h) (Or.inl ⟨by rfl, fun W _ => rfl⟩) (by assumption) ?_
    (try simp only [List.getElem_toArray, List.getElem_cons_succ, List.getElem_cons_zero, Act.put, List.setIfInBounds_toArray, List.set_cons_zero, List.set_cons_succ])
    refine wpAnyH_take (i := 34) (oi := _) (v := _) rfl (by kernel_rfl) (by kernel_rfl) (by kernel_rfl) (fun _ _ _ h => h) (Or.inl ⟨by rfl, fun W _ => rfl⟩) (by assumption) ?_
    (try simp only [List.getElem_toArray, List.getElem_cons_succ, List.getElem_cons_zero, Act.put, List.setIfInBounds_toArray, List.set_cons_zero, List.set_cons_succ])
    refine wpAnyH_take (i := 35) (oi := _) (v := _) rfl (by kernel_rfl) (by kernel_rfl) (by kernel_rfl) (fun _ _ _ h => h) (Or.inl ⟨by rfl, fun W _ => rfl⟩) (by assumption) ?_
    (try simp only [List.getElem_toArray, List.getElem_cons_succ, List.getElem_cons_zero, Act.put, List.setIfInBounds_toArray, List.set_cons_zero, List.set_cons_succ])
    refine wpAnyH_take (i := 36) (oi := _) (v := _) rfl (by kernel_rfl) (by kernel_rfl) (by kernel_rfl) (fun _ _ _ h => h) (Or.inl ⟨by rfl, fun W _ => rfl⟩) (by assumption) ?_
    (try simp only [List.getElem_toArray, List.getElem_cons_succ, List.getElem_cons_zero, Act.put, List.setIfInBounds_toArray, List.set_cons_zero, List.set_cons_succ])
    refine wpAnyH_take (i := 37) (oi := _) (v := _) rfl (by kernel_rfl) (by kernel_rfl) (by kernel_rfl) (fun _ _ _ h => h) (Or.inl ⟨by rfl, fun W _ => rfl⟩) (by assumption) ?_
    (try simp only [List.getElem_toArray, List.getElem_cons_succ, List.getElem_cons_zero, Act.put, List.setIfInBounds_toArray, List.set_cons_zero, List.set_cons_succ])
    refine wpAnyH_take (i := 38) (oi := _) (v := .agg #[.int .u64 x.uid, .slice x.fa x.fn x.fc, .int .u64 x.md, .string x.hash, .int .u64 x.size, .int .u64 p.seq, .int .u64 p.mostSeq, .int .u64 p.mostUid, .string s]) rfl (by kernel_rfl) (by kernel_rfl) (by kernel_rfl) (fun _ _ _ h => h) (Or.inl ⟨by rfl, fun W hW => by unfold LogicS at hW; obtain ⟨q0, q1, q2, q3, q4, q5, q6, q7, q8, -⟩ := hW; go_simp⟩) (by assumption) ?_
    (try simp only [List.getElem_toArray, List.getElem_cons_succ, List.getElem_cons_zero, Act.put, List.setIfInBounds_toArray, List.set_cons_zero, List.set_cons_succ])
    refine wpAnyH_take (i := 40) (oi := _) (v := _) rfl (by kernel_rfl) (by kernel_rfl) (by kernel_rfl) (fun _ _ _ h => h) (Or.inl ⟨by rfl, fun W _ => rfl⟩) (by assumption) ?_
    (try simp only [List.getElem_toArray, List.getElem_cons_succ, List.getElem_cons_zero, Act.put, List.setIfInBounds_toArray, List.set_cons_zero, List.set_cons_succ])
    refine wpAnyH_take (i := 41) (oi := _) (v := .agg #[.int .u64 x.uid, .slice x.fa x.fn x.fc, .int .u64 x.md, .string x.hash, .int .u64 x.size, .int .u64 p.seq, .int .u64 p.mostSeq, .int .u64 p.mostUid, .string s]) rfl (by kernel_rfl) (by kernel_rfl) (by kernel_rfl) (fun _ _ _ h => h) (Or.inl ⟨by rfl, fun W hW => by unfold LogicS at hW; obtain ⟨q0, q1, q2, q3, q4, q5, q6, q7, q8, -⟩ := hW; go_simp⟩) (by assumption) ?_
    (try simp only [List.getElem_toArray, List.getElem_cons_succ, List.getElem_cons_zero, Act.put, List.setIfInBounds_toArray, List.set_cons_zero, List.set_cons_succ])
    refine wpAnyH_ready (rs := [39]) (by kernel_rfl) (by simp) ?_
    refine AllReadyH.cons rfl (fun K hK => ?_) AllReadyH.nil
    go_simp
    refine (hcall.out _ _ (by assumption) _ (by assumption)).mono ?_
    rintro e w7 ⟨rfl, h7⟩
    refine hK.out _ _ (hS.out _ _ h7) (fun hHeld => ?_)
    clear hK K
    (try simp only [List.getElem_toArray, List.getElem_cons_succ, List.getElem_cons_zero, Act.put, List.setIfInBounds_toArray, List.set_cons_zero, List.set_cons_succ])
    refine wpAnyH_ready (rs := [42]) (by kernel_rfl) (by simp) ?_
    refine AllReadyH.cons rfl (fun K hK => ?_) AllReadyH.nil
    go_simp
    refine (hcall.out _ _ (by assumption) _ (by assumption)).mono ?_
    rintro e w7 ⟨rfl, h7⟩
    refine hK.out _ _ (hS.out _ _ h7) (fun hHeld => ?_)
    clear hK K
    (try simp only [List.getElem_toArray, List.getElem_cons_succ, List.getElem_cons_zero, Act.put, List.setIfInBounds_toArray, List.set_cons_zero, List.set_cons_succ])
    refine wpAnyH_take (i := 43) (oi := _) (v := _) rfl (by kernel_rfl) (by kernel_rfl) (by kernel_rfl) (fun _ _ _ h => h) (Or.inl ⟨by rfl, fun W _ => rfl⟩) (by assumption) ?_
    (try simp only [List.getElem_toArray, List.getElem_cons_succ, List.getElem_cons_zero, Act.put, List.setIfInBounds_toArray, List.set_cons_zero, List.set_cons_succ])
    refine wpAnyH_take (i := 44) (oi := _) (v := _) rfl (by kernel_rfl) (by kernel_rfl) (by kernel_rfl) (fun _ _ _ h => h) (Or.inl ⟨by rfl, fun W _ => rfl⟩) (by assumption) ?_
    (try simp only [List.getElem_toArray, List.getElem_cons_succ, List.getElem_cons_zero, Act.put, List.setIfInBounds_toArray, List.set_cons_zero, List.set_cons_succ])
    refine wpAnyH_take (i := 45) (oi := _) (v := _) rfl (by kernel_rfl) (by kernel_rfl) (by kernel_rfl) (fun _ _ _ h => h) (Or.inl ⟨by rfl, fun W _ => rfl⟩) (by assumption) ?_
    (try simp only [List.getElem_toArray, List.getElem_cons_succ, List.getElem_cons_zero, Act.put, List.setIfInBounds_toArray, List.set_cons_zero, List.set_cons_succ])
    refine wpAnyH_done (by kernel_rfl) ?_ _
    go_wp2_with fail
    go_ret
    exact ⟨rfl, h7.1.1⟩
  · replace t1 : Said tab vs false := t1
    replace t2 : Said tab vr false := t2
    replace t3 : Said tab vd true := t3
    replace t4 : Said tab vo true := t4
    replace t5 : Said tab vn false := t5
    refine wp_region_held_drew (S := LogicS w x p s C l) hmx (hS.out _ _ h18d) (fun hHeld => ?_)
    refine wpAnyH_take (i := 0) (oi := _) (v := _) rfl (by kernel_rfl) (by kernel_rfl) (by kernel_rfl) (fun _ _ _ h => h) (Or.inl ⟨by rfl, fun W _ => rfl⟩) (by assumption) ?_
    (try simp only [List.getElem_toArray, List.getElem_cons_succ, List.getElem_cons_zero, Act.put, List.setIfInBounds_toArray, List.set_cons_zero, List.set_cons_succ])
    refine wpAnyH_take (i := 1) (oi := _) (v := .agg #[.int .u64 x.uid, .slice x.fa x.fn x.fc, .int .u64 x.md, .string x.hash, .int .u64 x.size, .int .u64 p.seq, .int .u64 p.mostSeq, .int .u64 p.mostUid, .string s]) rfl (by kernel_rfl) (by kernel_rfl) (by kernel_rfl) (fun _ _ _ h => h) (Or.inl ⟨by rfl, fun W hW => by unfold LogicS at hW; obtain ⟨q0, q1, q2, q3, q4, q5, q6, q7, q8, -⟩ := hW; go_simp⟩) (by assumption) ?_
    (try simp only [List.getElem_toArray, List.getElem_cons_succ, List.getElem_cons_zero, Act.put, List.setIfInBounds_toArray, List.set_cons_zero, List.set_cons_succ])
    refine wpAnyH_take (i := 3) (oi := _) (v := _) rfl (by kernel_rfl) (by kernel_rfl) (by kernel_rfl) (fun _ _ _ h => h) (Or.inl ⟨by rfl, fun W _ => rfl⟩) (by assumption) ?_
    (try simp only [List.getElem_toArray, List.getElem_cons_succ, List.getElem_cons_zero, Act.put, List.setIfInBounds_toArray, List.set_cons_zero, List.set_cons_succ])
    refine wpAnyH_take (i := 4) (oi := _) (v := .agg #[.int .u64 x.uid, .slice x.fa x.fn x.fc, .int .u64 x.md, .string x.hash, .int .u64 x.size, .int .u64 p.seq, .int .u64 p.mostSeq, .int .u64 p.mostUid, .string s]) rfl (by kernel_rfl) (by kernel_rfl) (by kernel_rfl) (fun _ _ _ h => h) (Or.inl ⟨by rfl, fun W hW => by unfold LogicS at hW; obtain ⟨q0, q1, q2, q3, q4, q5, q6, q7, q8, -⟩ := hW; go_simp⟩) (by assumption) ?_
    (try simp only [List.getElem_toArray, List.getElem_cons_succ, List.getElem_cons_zero, Act.put, List.setIfInBounds_toArray, List.set_cons_zero, List.set_cons_succ])
    refine wpAnyH_ready (rs := [2]) (by kernel_rfl) (by simp) ?_
    refine AllReadyH.cons rfl (fun K hK => ?_) AllReadyH.nil
    go_simp
    refine (hcall.out _ _ (by assumption) _ (by assumption)).mono ?_
    rintro e w7 ⟨rfl, h7⟩
    refine hK.out _ _ (hS.out _ _ h7) (fun hHeld => ?_)
    clear hK K
    (try simp only [List.getElem_toArray, List.getElem_cons_succ, List.getElem_cons_zero, Act.put, List.setIfInBounds_toArray, List.set_cons_zero, List.set_cons_succ])
    refine wpAnyH_ready (rs := [5]) (by kernel_rfl) (by simp) ?_
    refine AllReadyH.cons rfl (fun K hK => ?_) AllReadyH.nil
    go_simp
    refine (hcall.out _ _ (by assumption) _ (by assumption)).mono ?_
    rintro e w7 ⟨rfl, h7⟩
    refine hK.out _ _ (hS.out _ _ h7) (fun hHeld => ?_)
    clear hK K
    (try simp only [List.getElem_toArray, List.getElem_cons_succ, List.getElem_cons_zero, Act.put, List.setIfInBounds_toArray, List.set_cons_zero, List.set_cons_succ])
    refine wpAnyH_take (i := 6) (oi := _) (v := _) rfl (by kernel_rfl) (by kernel_rfl) (by kernel_rfl) (fun _ _ _ h => h) (Or.inl ⟨by rfl, fun W _ => rfl⟩) (by assumption) ?_
    (try simp only [List.getElem_toArray, List.getElem_cons_succ, List.getElem_cons_zero, Act.put, List.setIfInBounds_toArray, List.set_cons_zero, List.set_cons_succ])
    refine wpAnyH_take (i := 7) (oi := _) (v := _) rfl (by kernel_rfl) (by kernel_rfl) (by kernel_rfl) (fun _ _ _ h => h) (Or.inl ⟨by rfl, fun W _ => rfl⟩) (by assumption) ?_
    (try simp only [List.getElem_toArray, List.getElem_cons_succ, List.getElem_cons_zero, Act.put, List.setIfInBounds_toArray, List.set_cons_zero, List.set_cons_succ])
    refine wpAnyH_take (i := 8) (oi := _) (v := _) rfl (by kernel_rfl) (by kernel_rfl) (by kernel_rfl) (fun _ _ _ h => h) (Or.inl ⟨by rfl, fun W _ => rfl⟩) (by assumption) ?_
    (try simp only [List.getElem_toArray, List.getElem_cons_succ, List.getElem_cons_zero, Act.put, List.setIfInBounds_toArray, List.set_cons_zero, List.set_cons_succ])
    refine wpAnyH_take (i := 9) (oi := _) (v := _) rfl (by kernel_rfl) (by kernel_rfl) (by kernel_rfl) (fun _ _ _ h => h) (Or.inl ⟨by rfl, fun W _ => rfl⟩) (by assumption) ?_
    (try simp only [List.getElem_toArray, List.getElem_cons_succ, List.getElem_cons_zero, Act.put, List.setIfInBounds_toArray, List.set_cons_zero, List.set_cons_succ])
    refine wpAnyH_take (i := 10) (oi := _) (v := .agg #[.int .u64 x.uid, .slice x.fa x.fn x.fc, .int .u64 x.md, .string x.hash, .int .u64 x.size, .int .u64 p.seq, .int .u64 p.mostSeq, .int .u64 p.mostUid, .string s]) rfl (by kernel_rfl) (by kernel_rfl) (by kernel_rfl) (fun _ _ _ h => h) (Or.inl ⟨by rfl, fun W hW => by unfold LogicS at hW; obtain ⟨q0, q1, q2, q3, q4, q5, q6, q7, q8, -⟩ := hW; go_simp⟩) (by assumption) ?_
    (try simp only [List.getElem_toArray, List.getElem_cons_succ, List.getElem_cons_zero, Act.put, List.setIfInBounds_toArray, List.set_cons_zero, List.set_cons_succ])
    refine wpAnyH_take (i := 12) (oi := _) (v := _) rfl (by kernel_rfl) (by kernel_rfl) (by kernel_rfl) (fun _ _ _ h => h) (Or.inl ⟨by rfl, fun W _ => rfl⟩) (by assumption) ?_
    (try simp only [List.getElem_toArray, List.getElem_cons_succ, List.getElem_cons_zero, Act.put, List.setIfInBounds_toArray, List.set_cons_zero, List.set_cons_succ])
    refine wpAnyH_take (i := 13) (oi := _) (v := .agg #[.int .u64 x.uid, .slice x.fa x.fn x.fc, .int .u64 x.md, .string x.hash, .int .u64 x.size, .int .u64 p.seq, .int .u64 p.mostSeq, .int .u64 p.mostUid, .string s]) rfl (by kernel_rfl) (by kernel_rfl) (by kernel_rfl) (fun _ _ _ h => h) (Or.inl ⟨by rfl, fun W hW => by unfold LogicS at hW; obtain ⟨q0, q1, q2, q3, q4, q5, q6, q7, q8, -⟩ := hW; go_simp⟩) (by assumption) ?_
    (try simp only [List.getElem_toArray, List.getElem_cons_succ, List.getElem_cons_zero, Act.put, List.setIfInBounds_toArray, List.set_cons_zero, List.set_cons_succ])
    refine wpAnyH_ready (rs := [11]) (by kernel_rfl) (by simp) ?_
    refine AllReadyH.cons rfl (fun K hK => ?_) AllReadyH.nil
    go_simp
    refine (hcall.out _ _ (by assumption) _ (by assumption)).mono ?_
    rintro e w7 ⟨rfl, h7⟩
    refine hK.out _ _ (hS.out _ _ h7) (fun hHeld => ?_)
    clear hK K
    (try simp only [List.getElem_toArray, List.getElem_cons_succ, List.getElem_cons_zero, Act.put, List.setIfInBounds_toArray, List.set_cons_zero, List.set_cons_succ])
    refine wpAnyH_ready (rs := [14]) (by kernel_rfl) (by simp) ?_
    refine AllReadyH.cons rfl (fun K hK => ?_) AllReadyH.nil
    go_simp
    refine (hcall.out _ _ (by assumption) _ (by assumption)).mono ?_
    rintro e w7 ⟨rfl, h7⟩
    refine hK.out _ _ (hS.out _ _ h7) (fun hHeld => ?_)
    clear hK K
    (try simp only [List.getElem_toArray, List.getElem_cons_succ, List.getElem_cons_zero, Act.put, List.setIfInBounds_toArray, List.set_cons_zero, List.set_cons_succ])
    refine wpAnyH_take (i := 15) (oi := _) (v := _) rfl (by kernel_rfl) (by kernel_rfl) (by kernel_rfl) (fun _ _ _ h => h) (Or.inl ⟨by rfl, fun W _ => rfl⟩) (by assumption) ?_
    (try simp only [List.getElem_toArray, List.getElem_cons_succ, List.getElem_cons_zero, Act.put, List.setIfInBounds_toArray, List.set_cons_zero, List.set_cons_succ])
    refine wpAnyH_take (i := 16) (oi := _) (v := _) rfl (by kernel_rfl) (by kernel_rfl) (by kernel_rfl) (fun _ _ _ h => h) (Or.inr ⟨by rfl, rfl⟩) (by assumption) ?_
    (try simp only [List.getElem_toArray, List.getElem_cons_succ, List.getElem_cons_zero, Act.put, List.setIfInBounds_toArray, List.set_cons_zero, List.set_cons_succ])
    refine wpAnyH_take (i := 17) (oi := _) (v := _) rfl (by kernel_rfl) (by kernel_rfl) (by kernel_rfl) (fun _ _ _ h => h) (Or.inr ⟨by rfl, rfl⟩) (by assumption) ?_
    (try simp only [List.getElem_toArray, List.getElem_cons_succ, List.getElem_cons_zero, Act.put, List.setIfInBounds_toArray, List.set_cons_zero, List.set_cons_succ])
    refine wpAnyH_take (i := 18) (oi := _) (v := _) rfl (by kernel_rfl) (by kernel_rfl) (by kernel_rfl) (fun _ _ _ h => h) (Or.inr ⟨by rfl, rfl⟩) (by assumption) ?_
    (try simp only [List.getElem_toArray, List.getElem_cons_succ, List.getElem_cons_zero, Act.put, List.setIfInBounds_toArray, List.set_cons_zero, List.set_cons_succ])
    refine wpAnyH_take (i := 19) (oi := _) (v := _) rfl (by kernel_rfl) (by kernel_rfl) (by kernel_rfl) (fun _ _ _ h => h) (Or.inl ⟨by rfl, fun W _ => rfl⟩) (by assumption) ?_
    (try simp only [List.getElem_toArray, List.getElem_cons_succ, List.getElem_cons_zero, Act.put, List.setIfInBounds_toArray, List.set_cons_zero, List.set_cons_succ])
    refine wpAnyH_take (i := 20) (oi := _) (v := _) rfl (by kernel_rfl) (by kernel_rfl) (by kernel_rfl) (fun _ _ _ h => h) (Or.inl ⟨by rfl, fun W _ => rfl⟩) (by assumption) ?_
    (try simp only [List.getElem_toArray, List.getElem_cons_succ, List.getElem_cons_zero, Act.put, List.setIfInBounds_toArray, List.set_cons_zero, List.set_cons_succ])
    refine wpAnyH_take (i := 21) (oi := _) (v := _) rfl (by kernel_rfl) (by kernel_rfl) (by kernel_rfl) (fun _ _ _ h => h) (Or.inl ⟨by rfl, fun W _ => rfl⟩) (by assumption) ?_
    (try simp only [List.getElem_toArray, List.getElem_cons_succ, List.getElem_cons_zero, Act.put, List.setIfInBounds_toArray, List.set_cons_zero, List.set_cons_succ])
    refine wpAnyH_take (i := 22) (oi := _) (v := _) rfl (by kernel_rfl) (by kernel_rfl) (by kernel_rfl) (fun _ _ _ h => h) (Or.inl ⟨by rfl, fun W _ => rfl⟩) (by assumption) ?_
    (try simp only [List.getElem_toArray, List.getElem_cons_succ, List.getElem_cons_zero, Act.put, List.setIfInBounds_toArray, List.set_cons_zero, List.set_cons_succ])
    refine wpAnyH_take (i := 23) (oi := _) (v := _) rfl (by kernel_rfl) (by kernel_rfl) (by kernel_rfl) (fun _ _ _ h => h) (Or.inl ⟨by rfl, fun W _ => rfl⟩) (by assumption) ?_
    (try simp only [List.getElem_toArray, List.getElem_cons_succ, List.getElem_cons_zero, Act.put, List.setIfInBounds_toArray, List.set_cons_zero, List.set_cons_succ])
    refine wpAnyH_take (i := 24) (oi := _) (v := .agg #[.int .u64 x.uid, .slice x.fa x.fn x.fc, .int .u64 x.md, .string x.hash, .int .u64 x.size, .int .u64 p.seq, .int .u64 p.mostSeq, .int .u64 p.mostUid, .string s]) rfl (by kernel_rfl) (by kernel_rfl) (by kernel_rfl) (fun _ _ _ h => h) (Or.inl ⟨by rfl, fun W hW => by unfold LogicS at hW; obtain ⟨q0, q1, q2, q3, q4, q5, q6, q7, q8, -⟩ := hW; go_simp⟩) (by assumption) ?_
    (try simp only [List.getElem_toArray, List.getElem_cons_succ, List.getElem_cons_zero, Act.put, List.setIfInBounds_toArray, List.set_cons_zero, List.set_cons_succ])
    refine wpAnyH_take (i := 26) (oi := _) (v := _) rfl (by kernel_rfl) (by kernel_rfl) (by kernel_rfl) (fun _ _ _ h => h) (Or.inl ⟨by rfl, fun W _ => rfl⟩) (by assumption) ?_
    (try simp only [List.getElem_toArray, List.getElem_cons_succ, List.getElem_cons_zero, Act.put, List.setIfInBounds_toArray, List.set_cons_zero, List.set_cons_succ])
    refine wpAnyH_take (i := 27) (oi := _) (v := .agg #[.int .u64 x.uid, .slice x.fa x.fn x.fc, .int .u64 x.md, .string x.hash, .int .u64 x.size, .int .u64 p.seq, .int .u64 p.mostSeq, .int .u64 p.mostUid, .string s]) rfl (by kernel_rfl) (by kernel_rfl) (by kernel_rfl) (fun _ _ _ h => h) (Or.inl ⟨by rfl, fun W hW => by unfold LogicS at hW; obtain ⟨q0, q1, q2, q3, q4, q5, q6, q7, q8, -⟩ := hW; go_simp⟩) (by assumption) ?_
    (try simp only [List.getElem_toArray, List.getElem_cons_succ, List.getElem_cons_zero, Act.put, List.setIfInBounds_toArray, List.set_cons_zero, List.set_cons_succ])
    refine wpAnyH_ready (rs := [25]) (by kernel_rfl) (by simp) ?_
    refine AllReadyH.cons rfl (fun K hK => ?_) AllReadyH.nil
    go_simp
    refine (hcall.out _ _ (by assumption) _ (by assumption)).mono ?_
    rintro e w7 ⟨rfl, h7⟩
    refine hK.out _ _ (hS.out _ _ h7) (fun hHeld => ?_)
    clear hK K
    (try simp only [List.getElem_toArray, List.getElem_cons_succ, List.getElem_cons_zero, Act.put, List.setIfInBounds_toArray, List.set_cons_zero, List.set_cons_succ])
    refine wpAnyH_ready (rs := [28]) (by kernel_rfl) (by simp) ?_
    refine AllReadyH.cons rfl (fun K hK => ?_) AllReadyH.nil
    go_simp
    refine (hcall.out _ _ (by assumption) _ (by assumption)).mono ?_
    rintro e w7 ⟨rfl, h7⟩
    refine hK.out _ _ (hS.out _ _ h7) (fun hHeld => ?_)
    clear hK K
    (try simp only [List.getElem_toArray, List.getElem_cons_succ, List.getElem_cons_zero, Act.put, List.setIfInBounds_toArray, List.set_cons_zero, List.set_cons_succ])
    refine wpAnyH_take (i := 29) (oi := _) (v := _) rfl (by kernel_rfl) (by kernel_rfl) (by kernel_rfl) (fun _ _ _ h => h) (Or.inl ⟨by rfl, fun W _ => rfl⟩) (by assumption) ?_
    (try simp only [List.getElem_toArray, List.getElem_cons_succ, List.getElem_cons_zero, Act.put, List.setIfInBounds_toArray, List.set_cons_zero, List.set_cons_succ])
    refine wpAnyH_take (i := 30) (oi := _) (v := _) rfl (by kernel_rfl) (by kernel_rfl) (by kernel_rfl) (fun _ _ _ h => h) (Or.inl ⟨by rfl, fun W _ => rfl⟩) (by assumption) ?_
    (try simp only [List.getElem_toArray, List.getElem_cons_succ, List.getElem_cons_zero, Act.put, List.setIfInBounds_toArray, List.set_cons_zero, List.set_cons_succ])
    refine wpAnyH_take (i := 31) (oi := _) (v := .agg #[.int .u64 x.uid, .slice x.fa x.fn x.fc, .int .u64 x.md, .string x.hash, .int .u64 x.size, .int .u64 p.seq, .int .u64 p.mostSeq, .int .u64 p.mostUid, .string s]) rfl (by kernel_rfl) (by kernel_rfl) (by kernel_rfl) (fun _ _ _ h => h) (Or.inl ⟨by rfl, fun W hW => by unfold LogicS at hW; obtain ⟨q0, q1, q2, q3, q4, q5, q6, q7, q8, -⟩ := hW; go_simp⟩) (by assumption) ?_
    (try simp only [List.getElem_toArray, List.getElem_cons_succ, List.getElem_cons_zero, Act.put, List.setIfInBounds_toArray, List.set_cons_zero, List.set_cons_succ])
    refine wpAnyH_ready (rs := [32]) (by kernel_rfl) (by simp) ?_
    refine AllReadyH.cons rfl (fun K hK => ?_) AllReadyH.nil
    go_simp
    refine (hcall.out _ _ (by assumption) _ (by assumption)).mono ?_
    rintro e w7 ⟨rfl, h7⟩
    refine hK.out _ _ (hS.out _ _ h7) (fun hHeld => ?_)
    clear hK K
    (try simp only [List.getElem_toArray, List.getElem_cons_succ, List.getElem_cons_zero, Act.put, List.setIfInBounds_toArray, List.set_cons_zero, List.set_cons_succ])
    refine wpAnyH_take (i := 33) (oi := _) (v := _) rfl (by kernel_rfl) (by kernel_rfl) (by kernel_rfl) (fun _ _ _ h => h) (Or.inl ⟨by rfl, fun W _ => rfl⟩) (by assumption) ?_
    (try simp only [List.getElem_toArray, List.getElem_cons_succ, List.getElem_cons_zero, Act.put, List.setIfInBounds_toArray, List.set_cons_zero, List.set_cons_succ])
    refine wpAnyH_take (i := 34) (oi := _) (v := _) rfl (by kernel_rfl) (by kernel_rfl) (by kernel_rfl) (fun _ _ _ h => h) (Or.inl ⟨by rfl, fun W _ => rfl⟩) (by assumption) ?_
    (try simp only [List.getElem_toArray, List.getElem_cons_succ, List.getElem_cons_zero, Act.put, List.setIfInBounds_toArray, List.set_cons_zero, List.set_cons_succ])
    refine wpAnyH_take (i := 35) (oi := _) (v := _) rfl (by kernel_rfl) (by kernel_rfl) (by kernel_rfl) (fun _ _ _ h => h) (Or.inl ⟨by rfl, fun W _ => rfl⟩) (by assumption) ?_
    (try simp only [List.getElem_toArray, List.getElem_cons_succ, List.getElem_cons_zero, Act.put, List.setIfInBounds_toArray, List.set_cons_zero, List.set_cons_succ])
    refine wpAnyH_take (i := 36) (oi := _) (v := _) rfl (by kernel_rfl) (by kernel_rfl) (by kernel_rfl) (fun _ _ _ h => h) (Or.inl ⟨by rfl, fun W _ => rfl⟩) (by assumption) ?_
    (try simp only [List.getElem_toArray, List.getElem_cons_succ, List.getElem_cons_zero, Act.put, List.setIfInBounds_toArray, List.set_cons_zero, List.set_cons_succ])
    refine wpAnyH_take (i := 37) (oi := _) (v := _) rfl (by kernel_rfl) (by kernel_rfl) (by kernel_rfl) (fun _ _ _ h => h) (Or.inl ⟨by rfl, fun W _ => rfl⟩) (by assumption) ?_
    (try simp only [List.getElem_toArray, List.getElem_cons_succ, List.getElem_cons_zero, Act.put, List.setIfInBounds_toArray, List.set_cons_zero, List.set_cons_succ])
    refine wpAnyH_take (i := 38) (oi := _) (v := .agg #[.int .u64 x.uid, .slice x.fa x.fn x.fc, .int .u64 x.md, .string x.hash, .int .u64 x.size, .int .u64 p.seq, .int .u64 p.mostSeq, .int .u64 p.mostUid, .string s]) rfl (by kernel_rfl) (by kernel_rfl) (by kernel_rfl) (fun _ _ _ h => h) (Or.inl ⟨by rfl, fun W hW => by unfold LogicS at hW; obtain ⟨q0, q1, q2, q3, q4, q5, q6, q7, q8, -⟩ := hW; go_simp⟩) (by assumption) ?_
    (try simp only [List.getElem_toArray, List.getElem_cons_succ, List.getElem_cons_zero, Act.put, List.setIfInBounds_toArray, List.set_cons_zero, List.set_cons_succ])
    refine wpAnyH_take (i := 40) (oi := _) (v := _) rfl (by kernel_rfl) (by kernel_rfl) (by kernel_rfl) (fun _ _ _ h => h) (Or.inl ⟨by rfl, fun W _ => rfl⟩) (by assumption) ?_
    (try simp only [List.getElem_toArray, List.getElem_cons_succ, List.getElem_cons_zero, Act.put, List.setIfInBounds_toArray, List.set_cons_zero, List.set_cons_succ])
    refine wpAnyH_take (i := 41) (oi := _) (v := .agg #[.int .u64 x.uid, .slice x.fa x.fn x.fc, .int .u64 x.md, .string x.hash, .int .u64 x.size, .int .u64 p.seq, .int .u64 p.mostSeq, .int .u64 p.mostUid, .string s]) rfl (by kernel_rfl) (by kernel_rfl) (by kernel_rfl) (fun _ _ _ h => h) (Or.inl ⟨by rfl, fun W hW => by unfold LogicS at hW; obtain ⟨q0, q1, q2, q3, q4, q5, q6, q7, q8, -⟩ := hW; go_simp⟩) (by assumption) ?_
    (try simp only [List.getElem_toArray, List.getElem_cons_succ, List.getElem_cons_zero, Act.put, List.setIfInBounds_toArray, List.set_cons_zero, List.set_cons_succ])
    refine wpAnyH_ready (rs := [39]) (by kernel_rfl) (by simp) ?_
    refine AllReadyH.cons rfl (fun K hK => ?_) AllReadyH.nil
    go_simp
    refine (hcall.out _ _ (by assumption) _ (by assumption)).mono ?_
    rintro e w7 ⟨rfl, h7⟩
    refine hK.out _ _ (hS.out _ _ h7) (fun hHeld => ?_)
    clear hK K
    (try simp only [List.getElem_toArray, List.getElem_cons_succ, List.getElem_cons_zero, Act.put, List.setIfInBounds_toArray, List.set_cons_zero, List.set_cons_succ])
    refine wpAnyH_ready (rs := [42]) (by kernel_rfl) (by simp) ?_
    refine AllReadyH.cons rfl (fun K hK => ?_) AllReadyH.nil
    go_simp
    refine (hcall.out _ _ (by assumption) _ (by assumption)).mono ?_
    rintro e w7 ⟨rfl, h7⟩
    refine hK.out _ _ (hS.out _ _ h7) (fun hHeld => ?_)
    clear hK K
    (try simp only [List.getElem_toArray, List.getElem_cons_succ, List.getElem_cons_zero, Act.put, List.setIfInBounds_toArray, List.set_cons_zero, List.set_cons_succ])
    refine wpAnyH_take (i := 43) (oi := _) (v := _) rfl (by kernel_rfl) (by kernel_rfl) (by kernel_rfl) (fun _ _ _ h => h) (Or.inl ⟨by rfl, fun W _ => rfl⟩) (by assumption) ?_
    (try simp only [List.getElem_toArray, List.getElem_cons_succ, List.getElem_cons_zero, Act.put, List.setIfInBounds_toArray, List.set_cons_zero, List.set_cons_succ])
    refine wpAnyH_take (i := 44) (oi := _) (v := _) rfl (by kernel_rfl) (by kernel_rfl) (by kernel_rfl) (fun _ _ _ h => h) (Or.inl ⟨by rfl, fun W _ => rfl⟩) (by assumption) ?_
    (try simp only [List.getElem_toArray, List.getElem_cons_succ, List.getElem_cons_zero, Act.put, List.setIfInBounds_toArray, List.set_cons_zero, List.set_cons_succ])
    refine wpAnyH_take (i := 45) (oi := _) (v := _) rfl (by kernel_rfl) (by kernel_rfl) (by kernel_rfl) (fun _ _ _ h => h) (Or.inl ⟨by rfl, fun W _ => rfl⟩) (by assumption) ?_
    (try simp only [List.getElem_toArray, List.getElem_cons_succ, List.getElem_cons_zero, Act.put, List.setIfInBounds_toArray, List.set_cons_zero, List.set_cons_succ])
    refine wpAnyH_done (by kernel_rfl) ?_ _
    go_wp2_with fail
    go_ret
    exact ⟨rfl, h7.1.1⟩
end Go.Proofs.YtmlmkcpdgcojlaaDoor
