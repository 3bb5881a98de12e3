/- MatchBytes: walked. -/
import Derived.Test.YtmlmkcpdgcojlaaDoorMaL
import Derived.Deep.RegionHeld3
namespace Go.Proofs.YtmlmkcpdgcojlaaDoor
open Go.RowKit

/-- what a key's set is -/
def SetIn (w : World) (k : KeyD) : Prop := k.kids ≤ 9223372036854775807 ∧ ∃ rs, k.has = hasL rs ∧ RangesIn w w.heap.size k.setv rs ∧ rs.length ≤ 9223372036854775807
theorem RangesIn.mono {w : World} {B B' : Nat} {v : Value} {rs : List (Nat × Nat)} (h : RangesIn w B v rs) (hb : B ≤ B') : RangesIn w B' v rs := by
  obtain ⟨ao, cap, hv, h | ⟨b, o, ha, hlt, hle, hc⟩⟩ := h
  · exact ⟨ao, cap, hv, .inl h⟩
  · exact ⟨ao, cap, hv, .inr ⟨b, o, ha, by omega, hle, hc⟩⟩
theorem SetIn.later {w w' : World} {k : KeyD} (h : SetIn w k) (hb : Below w.heap.size w w') : SetIn w' k := by
  obtain ⟨h1, rs, h2, h3, h4⟩ := h
  exact ⟨h1, rs, h2, (h3.later hb).mono hb.size, h4⟩
theorem asked_keys {W : World} {ks : List KeyD} {v : Value} {x : LetterD} {m : Int} (hk : KeysIn W W.heap.size v ks) (hset : ∀ k ∈ ks, SetIn W k) (hlen : ∀ k ∈ ks, k.field.size ≤ 4194304 ∧ k.text.size ≤ 4194304)
    (hf : FlagIn W x) (hm : W.cell? ⟨0, 0, none⟩ = some (.int .i64 m)) : Asked W W.heap.size ks v x m :=
  ⟨hk, fun k hk _ w' hb a b => by
    obtain ⟨_, rs, hh, hr, hl⟩ := hset k hk
    rw [hh]
    exact has_any rs k.setv a b w' hl ((hr.later hb).mono hb.size), hf, hm, heap_pos hm, fun k hk _ => hlen k hk, fun k hk => (hset k hk).1⟩
theorem short_lens {ks : List KeyD} {n : Nat} (h : shortL ks n = true) : ks.length ≤ 64 ∧ n ≤ 4096 ∧ ∀ k ∈ ks, k.field.size ≤ 4194304 ∧ k.text.size ≤ 4194304 := by
  rw [shortL, Bool.and_eq_true] at h
  have h1 := of_decide_eq_true h.1
  have h2 := of_decide_eq_true h.2
  have h3 : fewN n ≤ 4096 := by omega
  unfold fewN at h3
  refine ⟨h1, by omega, fun k hk => ?_⟩
  have := shortSum_mem ks k hk (by omega)
  omega
/-- a mail lies in block w.heap.size, and nothing of w has turned -/
def MB (w : World) (C : Array Value) (W : World) : Prop := Below w.heap.size w W ∧ W.heap[w.heap.size]? = some (.cells C 30 (0, 0))
theorem MB.on {w W W' : World} {C : Array Value} (h : MB w C W) (hb : Below W.heap.size W W') : MB w C W' := ⟨h.1.trans (hb.mono h.1.size), heap_below h.2 hb⟩
theorem MB.drew {w W : World} {C : Array Value} (h : MB w C W) : MB w C W.drew := h.on (Below.drew (Below.refl _ _))
set_option maxRecDepth 100000 in
set_option maxHeartbeats 4000000 in
theorem matchBytes_any (ks : List KeyD) (v : Value) (x : LetterD) (p : PlaceD) (s t : ByteArray) (hst : s.size + t.size ≤ 9223372036854775807) (w : World) (hk : KeysIn w w.heap.size v ks) (hset : ∀ k ∈ ks, SetIn w k) (hf : FlagIn w x) (hm : ∃ m, w.cell? ⟨0, 0, none⟩ = some (.int .i64 m)) :
    Calls Tryd.prog 4 #[v, mailV x p s, .string t] w fun e w' => e = .returned (.bool true) ∧ Below w.heap.size w w' := by
  obtain ⟨m, hm⟩ := hm
  have hmx : Tryd.prog.follows .mixedOrders = true := by kernel_rfl
  have h0 := heap_pos hm
  unfold mailV
  have hsz : (s ++ t).size = s.size + t.size := ByteArray.size_append
  have hmb := Lib.hid (fun w' (h : Below w.heap.size w w') => (h.cell (p := ⟨0, 0, none⟩) (by show 0 < _; omega)).trans hm)
  have hfb := Lib.hid (fun w' (h : Below w.heap.size w w') => ((fun w2 h2 => hf w2 (h.trans (h2.mono h.size))) : FlagIn w' x))
  obtain ⟨C, hC⟩ : ∃ C : Array Value, C = #[.int .u64 x.uid, .slice x.fa x.fn x.fc, .int .u64 x.md, .string x.hash, .int .u64 x.size, .int .u64 p.seq, .int .u64 p.mostSeq, .int .u64 p.mostUid, .string s] := ⟨_, rfl⟩
  have hal := Lib.hid (fun W (h : MB w C W) => (alive_any m W (hmb.out W h.1) (Nat.le_trans h0 h.1.size)).mono fun e W' h' => (⟨h'.1, h.on h'.2.out⟩ : e = Ending.returned (Value.bool true) ∧ MB w C W'))
  have hkb := Lib.hid (fun w' (h : Below w.heap.size w w') => (hk.later h).mono h.size)
  have hsb := Lib.hid (fun w' (h : Below w.heap.size w w') k hk => (hset k hk).later h)
  obtain ⟨W1, hW1⟩ : ∃ W1, W1 = w.alloc (.cells #[.int .u64 x.uid, .slice x.fa x.fn x.fc, .int .u64 x.md, .string x.hash, .int .u64 x.size, .int .u64 p.seq, .int .u64 p.mostSeq, .int .u64 p.mostUid, .string s] 30) := ⟨_, rfl⟩
  have hMW1 : MB w C W1 := by
    rw [hW1, hC]
    exact ⟨(Below.refl _ w).alloc (Nat.le_refl _) _, cells_new w _ _⟩
  have hsh := short_any ks v (s ++ t) (by omega) W1 (hkb.out W1 hMW1.1)
  have hsz1 : ¬ (s.size + t.size > 9223372036854775807) := by omega
  clear hm hf hk hset
  have hcells : ∀ W, MB w C W → ∀ j : Nat, W.cell? ⟨w.heap.size, j, none⟩ = (#[.int .u64 x.uid, .slice x.fa x.fn x.fc, .int .u64 x.md, .string x.hash, .int .u64 x.size, .int .u64 p.seq, .int .u64 p.mostSeq, .int .u64 p.mostUid, .string s] : Array Value)[j]? := fun W h j => by rw [← hC]; exact cell_at h.2 j
  replace hcells := Lib.hid hcells
  have hS : ∀ W, MB w C W → W.cell? ⟨w.heap.size, 0, none⟩ = some (.int .u64 x.uid) ∧ W.cell? ⟨w.heap.size, 1, none⟩ = some (.slice x.fa x.fn x.fc) ∧ W.cell? ⟨w.heap.size, 2, none⟩ = some (.int .u64 x.md) ∧ W.cell? ⟨w.heap.size, 3, none⟩ = some (.string x.hash) ∧ W.cell? ⟨w.heap.size, 4, none⟩ = some (.int .u64 x.size) ∧ W.cell? ⟨w.heap.size, 5, none⟩ = some (.int .u64 p.seq) ∧ W.cell? ⟨w.heap.size, 6, none⟩ = some (.int .u64 p.mostSeq) ∧ W.cell? ⟨w.heap.size, 7, none⟩ = some (.int .u64 p.mostUid) ∧ W.cell? ⟨w.heap.size, 8, none⟩ = some (.string s) ∧ MB w C W :=
    fun W h => ⟨hcells.out _ h 0, hcells.out _ h 1, hcells.out _ h 2, hcells.out _ h 3, hcells.out _ h 4, hcells.out _ h 5, hcells.out _ h 6, hcells.out _ h 7, hcells.out _ h 8, h⟩
  replace hS := Lib.hid hS
  cases hSh : shortL ks (s ++ t).size with
  | true =>
    rw [hSh] at hsh
    obtain ⟨hl64, hn, hlens⟩ := short_lens hSh
    replace hsh := Lib.hid hsh
    replace hlens := Lib.hid hlens
    clear hSh
    rw [hsz] at hn
    clear hsz
    have hwn := Lib.hid (fun W (h : MB w C W) => (wants_any ks v W (by omega) (hkb.out W h.1)).mono fun e W' h' => (⟨h'.1, h.on h'.2.out⟩ : e = Ending.returned (Value.bool (wantsL ks)) ∧ MB w C W'))
    cases hw : wantsL ks with
    | true =>
      rw [hw] at hwn
      go_enter Tryd.func4, Tryd.ntmps4
      go_wp2_with fail
      rw [← hW1]
      have r8 := hcells.out W1 hMW1 8
      go_wp2_with fail
      refine hsh.out.mono ?_
      rintro e W2 ⟨rfl, hb2⟩
      have h2 := hMW1.on hb2
      have h2d := h2.drew
      clear hMW1 hb2 hW1 hsh r8 hC
      go_wp2_with fail
      refine wp_region_held_drew (S := MB w C) hmx h2d (fun hHeld => ?_)
      refine wpAnyH_ready (rs := [0]) (by kernel_rfl) (by simp) ?_
      refine AllReadyH.cons rfl (fun K hK => ?_) AllReadyH.nil
      go_simp
      refine (hal.out _ h2d).mono ?_
      rintro e w5 ⟨rfl, h5⟩
      refine hK.out _ _ h5 (fun hHeld => ?_)
      clear hK K
      try simp only [List.getElem_toArray, List.getElem_cons_succ, List.getElem_cons_zero, Act.put, List.setIfInBounds_toArray, List.set_cons_zero, List.set_cons_succ]
      (refine wpAnyH_take (i := 1) (oi := _) (v := _) rfl (by kernel_rfl) (by kernel_rfl) (by kernel_rfl) (fun _ _ _ h => h) (Or.inl ⟨by rfl, fun w _ => rfl⟩) (by assumption) ?_; (try simp only [List.getElem_toArray, List.getElem_cons_succ, List.getElem_cons_zero, Act.put, List.setIfInBounds_toArray, List.set_cons_zero, List.set_cons_succ]))
      (refine wpAnyH_take (i := 2) (oi := _) (v := _) rfl (by kernel_rfl) (by kernel_rfl) (by kernel_rfl) (fun _ _ _ h => h) (Or.inl ⟨by rfl, fun w _ => rfl⟩) (by assumption) ?_; (try simp only [List.getElem_toArray, List.getElem_cons_succ, List.getElem_cons_zero, Act.put, List.setIfInBounds_toArray, List.set_cons_zero, List.set_cons_succ]))
      refine wpAnyH_ready (rs := [3]) (by kernel_rfl) (by simp) ?_
      refine AllReadyH.cons rfl (fun K hK => ?_) AllReadyH.nil
      go_simp
      refine (hwn.out _ h5).mono ?_
      rintro e w6 ⟨rfl, h6⟩
      refine hK.out _ _ h6 (fun hHeld => ?_)
      clear hK K
      try simp only [List.getElem_toArray, List.getElem_cons_succ, List.getElem_cons_zero, Act.put, List.setIfInBounds_toArray, List.set_cons_zero, List.set_cons_succ]
      (refine wpAnyH_take (i := 4) (oi := _) (v := _) rfl (by kernel_rfl) (by kernel_rfl) (by kernel_rfl) (fun _ _ _ h => h) (Or.inl ⟨by rfl, fun w _ => rfl⟩) (by assumption) ?_; (try simp only [List.getElem_toArray, List.getElem_cons_succ, List.getElem_cons_zero, Act.put, List.setIfInBounds_toArray, List.set_cons_zero, List.set_cons_succ]))
      refine wpAnyH_take (i := 5) (oi := _) (v := _) rfl (by kernel_rfl) (by kernel_rfl) (by kernel_rfl) (fun _ _ _ h => h) (Or.inr ⟨by rfl, rfl⟩) (by assumption) ?_
      (try simp only [List.getElem_toArray, List.getElem_cons_succ, List.getElem_cons_zero, Act.put, List.setIfInBounds_toArray, List.set_cons_zero, List.set_cons_succ])
      refine wpAnyH_take (i := 6) (oi := _) (v := _) rfl (by kernel_rfl) (by kernel_rfl) (by kernel_rfl) (fun _ _ _ h => h) (Or.inr ⟨by rfl, rfl⟩) (by assumption) ?_
      (try simp only [List.getElem_toArray, List.getElem_cons_succ, List.getElem_cons_zero, Act.put, List.setIfInBounds_toArray, List.set_cons_zero, List.set_cons_succ])
      refine wpAnyH_take (i := 7) (oi := _) (v := _) rfl (by kernel_rfl) (by kernel_rfl) (by kernel_rfl) (fun _ _ _ h => h) (Or.inr ⟨by rfl, rfl⟩) (by assumption) ?_
      (try simp only [List.getElem_toArray, List.getElem_cons_succ, List.getElem_cons_zero, Act.put, List.setIfInBounds_toArray, List.set_cons_zero, List.set_cons_succ])
      refine wpAnyH_take (i := 8) (oi := _) (v := _) rfl (by kernel_rfl) (by kernel_rfl) (by kernel_rfl) (fun _ _ _ h => h) (Or.inr ⟨by rfl, rfl⟩) (by assumption) ?_
      (try simp only [List.getElem_toArray, List.getElem_cons_succ, List.getElem_cons_zero, Act.put, List.setIfInBounds_toArray, List.set_cons_zero, List.set_cons_succ])
      refine wpAnyH_take (i := 9) (oi := _) (v := _) rfl (by kernel_rfl) (by kernel_rfl) (by kernel_rfl) (fun _ _ _ h => h) (Or.inr ⟨by rfl, rfl⟩) (by assumption) ?_
      (try simp only [List.getElem_toArray, List.getElem_cons_succ, List.getElem_cons_zero, Act.put, List.setIfInBounds_toArray, List.set_cons_zero, List.set_cons_succ])
      refine wpAnyH_take (i := 10) (oi := _) (v := _) rfl (by kernel_rfl) (by kernel_rfl) (by kernel_rfl) (fun _ _ _ h => h) (Or.inr ⟨by rfl, rfl⟩) (by assumption) ?_
      (try simp only [List.getElem_toArray, List.getElem_cons_succ, List.getElem_cons_zero, Act.put, List.setIfInBounds_toArray, List.set_cons_zero, List.set_cons_succ])
      refine wpAnyH_take (i := 11) (oi := _) (v := _) rfl (by kernel_rfl) (by kernel_rfl) (by kernel_rfl) (fun _ _ _ h => h) (Or.inr ⟨by rfl, rfl⟩) (by assumption) ?_
      (try simp only [List.getElem_toArray, List.getElem_cons_succ, List.getElem_cons_zero, Act.put, List.setIfInBounds_toArray, List.set_cons_zero, List.set_cons_succ])
      refine wpAnyH_take (i := 12) (oi := _) (v := _) rfl (by kernel_rfl) (by kernel_rfl) (by kernel_rfl) (fun _ _ _ h => h) (Or.inr ⟨by rfl, rfl⟩) (by assumption) ?_
      (try simp only [List.getElem_toArray, List.getElem_cons_succ, List.getElem_cons_zero, Act.put, List.setIfInBounds_toArray, List.set_cons_zero, List.set_cons_succ])
      refine wpAnyH_take (i := 13) (oi := _) (v := _) rfl (by kernel_rfl) (by kernel_rfl) (by kernel_rfl) (fun _ _ _ h => h) (Or.inr ⟨by rfl, rfl⟩) (by assumption) ?_
      (try simp only [List.getElem_toArray, List.getElem_cons_succ, List.getElem_cons_zero, Act.put, List.setIfInBounds_toArray, List.set_cons_zero, List.set_cons_succ])
      refine wpAnyH_take (i := 14) (oi := _) (v := _) rfl (by kernel_rfl) (by kernel_rfl) (by kernel_rfl) (fun _ _ _ h => h) (Or.inr ⟨by rfl, rfl⟩) (by assumption) ?_
      (try simp only [List.getElem_toArray, List.getElem_cons_succ, List.getElem_cons_zero, Act.put, List.setIfInBounds_toArray, List.set_cons_zero, List.set_cons_succ])
      refine wpAnyH_take (i := 15) (oi := _) (v := _) rfl (by kernel_rfl) (by kernel_rfl) (by kernel_rfl) (fun _ _ _ h => h) (Or.inr ⟨by rfl, rfl⟩) (by assumption) ?_
      (try simp only [List.getElem_toArray, List.getElem_cons_succ, List.getElem_cons_zero, Act.put, List.setIfInBounds_toArray, List.set_cons_zero, List.set_cons_succ])
      refine wpAnyH_take (i := 16) (oi := _) (v := _) rfl (by kernel_rfl) (by kernel_rfl) (by kernel_rfl) (fun _ _ _ h => h) (Or.inr ⟨by rfl, rfl⟩) (by assumption) ?_
      (try simp only [List.getElem_toArray, List.getElem_cons_succ, List.getElem_cons_zero, Act.put, List.setIfInBounds_toArray, List.set_cons_zero, List.set_cons_succ])
      refine wpAnyH_take (i := 17) (oi := _) (v := _) rfl (by kernel_rfl) (by kernel_rfl) (by kernel_rfl) (fun _ _ _ h => h) (Or.inr ⟨by rfl, rfl⟩) (by assumption) ?_
      (try simp only [List.getElem_toArray, List.getElem_cons_succ, List.getElem_cons_zero, Act.put, List.setIfInBounds_toArray, List.set_cons_zero, List.set_cons_succ])
      refine wpAnyH_take (i := 18) (oi := _) (v := _) rfl (by kernel_rfl) (by kernel_rfl) (by kernel_rfl) (fun _ _ _ h => h) (Or.inr ⟨by rfl, rfl⟩) (by assumption) ?_
      (try simp only [List.getElem_toArray, List.getElem_cons_succ, List.getElem_cons_zero, Act.put, List.setIfInBounds_toArray, List.set_cons_zero, List.set_cons_succ])
      refine wpAnyH_take (i := 19) (oi := _) (v := _) rfl (by kernel_rfl) (by kernel_rfl) (by kernel_rfl) (fun _ _ _ h => h) (Or.inr ⟨by rfl, rfl⟩) (by assumption) ?_
      (try simp only [List.getElem_toArray, List.getElem_cons_succ, List.getElem_cons_zero, Act.put, List.setIfInBounds_toArray, List.set_cons_zero, List.set_cons_succ])
      refine wpAnyH_take (i := 20) (oi := _) (v := _) rfl (by kernel_rfl) (by kernel_rfl) (by kernel_rfl) (fun _ _ _ h => h) (Or.inr ⟨by rfl, rfl⟩) (by assumption) ?_
      (try simp only [List.getElem_toArray, List.getElem_cons_succ, List.getElem_cons_zero, Act.put, List.setIfInBounds_toArray, List.set_cons_zero, List.set_cons_succ])
      refine wpAnyH_take (i := 21) (oi := _) (v := _) rfl (by kernel_rfl) (by kernel_rfl) (by kernel_rfl) (fun _ _ _ h => h) (Or.inl ⟨by rfl, fun w _ => rfl⟩) (by assumption) ?_
      (try simp only [List.getElem_toArray, List.getElem_cons_succ, List.getElem_cons_zero, Act.put, List.setIfInBounds_toArray, List.set_cons_zero, List.set_cons_succ])
      refine wpAnyH_take (i := 22) (oi := _) (v := _) rfl (by kernel_rfl) (by kernel_rfl) (by kernel_rfl) (fun _ _ _ h => h) (Or.inl ⟨by rfl, fun w _ => rfl⟩) (by assumption) ?_
      (try simp only [List.getElem_toArray, List.getElem_cons_succ, List.getElem_cons_zero, Act.put, List.setIfInBounds_toArray, List.set_cons_zero, List.set_cons_succ])
      refine wpAnyH_take (i := 23) (oi := _) (v := _) rfl (by kernel_rfl) (by kernel_rfl) (by kernel_rfl) (fun _ _ _ h => h) (Or.inl ⟨by rfl, fun w _ => rfl⟩) (by assumption) ?_
      (try simp only [List.getElem_toArray, List.getElem_cons_succ, List.getElem_cons_zero, Act.put, List.setIfInBounds_toArray, List.set_cons_zero, List.set_cons_succ])
      refine wpAnyH_done (by kernel_rfl) ?_ _
      go_wp2_with fail
      go_ret
      exact ⟨rfl, h6.1⟩
    | false =>
      rw [hw] at hwn
      have heq := match_bytes ks x p s.data.toList t.data.toList hw
      obtain ⟨M, hM⟩ : ∃ M, M = matchL ks x p t.data.toList := ⟨_, rfl⟩
      have hcm : ∀ W, MB w C W → ∀ u : ByteArray, u = s ∨ u = t → Calls Tryd.prog 11 #[v, letterV x, placeV p, .string u] W fun e W' => e = .returned (.bool M) ∧ MB w C W' := fun W h u hu => by
        have hul : u.size ≤ 4194304 := by rcases hu with rfl | rfl <;> omega
        refine (match_any ks v x p u m W hul (asked_keys (hkb.out W h.1) (hsb.out W h.1) hlens.out (hfb.out W h.1) (hmb.out W h.1))).mono fun e W' h' => ⟨?_, h.on h'.2.out⟩
        rw [h'.1, hM]
        rcases hu with rfl | rfl
        · rw [heq]
        · rfl
      unfold letterV placeV at hcm
      replace hcm := Lib.hid hcm
      clear hM heq hw
      go_enter Tryd.func4, Tryd.ntmps4
      go_wp2_with fail
      rw [← hW1]
      have r8 := hcells.out W1 hMW1 8
      go_wp2_with fail
      refine hsh.out.mono ?_
      rintro e W2 ⟨rfl, hb2⟩
      have h2 := hMW1.on hb2
      have h2d := h2.drew
      clear hMW1 hb2 hW1 hsh r8 hC
      go_wp2_with fail
      go_region_held3 (fun W => W.cell? ⟨w.heap.size, 0, none⟩ = some (.int .u64 x.uid) ∧ W.cell? ⟨w.heap.size, 1, none⟩ = some (.slice x.fa x.fn x.fc) ∧ W.cell? ⟨w.heap.size, 2, none⟩ = some (.int .u64 x.md) ∧ W.cell? ⟨w.heap.size, 3, none⟩ = some (.string x.hash) ∧ W.cell? ⟨w.heap.size, 4, none⟩ = some (.int .u64 x.size) ∧ W.cell? ⟨w.heap.size, 5, none⟩ = some (.int .u64 p.seq) ∧ W.cell? ⟨w.heap.size, 6, none⟩ = some (.int .u64 p.mostSeq) ∧ W.cell? ⟨w.heap.size, 7, none⟩ = some (.int .u64 p.mostUid) ∧ W.cell? ⟨w.heap.size, 8, none⟩ = some (.string s) ∧ MB w C W)
        (first | exact hS.out _ (by assumption) | exact hS.out _ (MB.drew (by assumption)))
        (first
        | (go_at_call 6; refine (hal.out _ (by assumption)).mono ?_; rintro e w5 ⟨rfl, h5⟩)
        | (go_at_call 10; refine (hwn.out _ (by assumption)).mono ?_; rintro e w6 ⟨rfl, h6⟩)
        | (go_at_call 11; refine (hcm.out _ (by assumption) _ (by first | exact .inl rfl | exact .inr rfl)).mono ?_; rintro e w7 ⟨rfl, h7⟩))
      all_goals (
        go_wp2_with fail
        go_ret
        exact ⟨rfl, h7.1⟩)
  | false =>
    rw [hSh] at hsh
    replace hsh := Lib.hid hsh
    clear hsz hSh
    go_enter Tryd.func4, Tryd.ntmps4
    go_wp2_with fail
    rw [← hW1]
    have r8 := hcells.out W1 hMW1 8
    go_wp2_with fail
    refine hsh.out.mono ?_
    rintro e W2 ⟨rfl, hb2⟩
    have h2 := hMW1.on hb2
    go_wp2_with fail
    refine (hal.out _ h2).mono ?_
    rintro e W3 ⟨rfl, h3⟩
    go_wp2_with fail
    go_ret
    exact ⟨rfl, h3.1⟩
end Go.Proofs.YtmlmkcpdgcojlaaDoor
