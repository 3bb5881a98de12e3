/- slices.Sort on 12 numbers or fewer: walked. slices.Sort at uint64: walked, at whatever length. Norm: walked, over what slices.Sort does. What the ranges of rising numbers are: plain. SeqsetFew: walked. The reference's Norm: walked. The reference's Norm: walked. -/
import Derived.Test.YtcnebfmlelcliaaB10
import Derived.Test.YtcnebfmlelcliaaShelfS
import Derived.Test.YtcnebfmlelcliaaB15
import Derived.Maps.Views
import Derived.Test.YtcnebfmlelcliaaB08
namespace Go.Proofs.Ytcnebfmlelcliaa
open Go.RowKit

set_option maxRecDepth 100000 in
set_option maxHeartbeats 4000000 in
theorem pdq_few (g cap : Nat) (l0 : List Nat) (rest : List Value) (k : Int) (hlen : l0.length ≤ 12) (W0 : World) (hr : Row W0 g l0 rest) :
    Calls Try.prog 66 #[.slice (some ⟨g, 0, none⟩) l0.length cap, .int .i64 0, .int .i64 l0.length, .int .i64 k] W0 fun e W' => e = .returned (.tuple #[]) ∧ ∃ l', Hid (Row W' g l' rest) ∧ Hid (Turned 0 l0.length l0 l' ∧ SortedOn l' 0 l0.length) ∧ Hid (Kept1 W0 g W') := by
  have hi := Lib.hid (insertion_any g cap l0 rest 0 l0.length (Nat.zero_le _) (Nat.le_refl _) (by omega) W0 hr)
  have hd : decide ((l0.length : Int) ≤ 12) = true := by simp; omega
  clear hr
  go_enter Try.func66, Try.ntmps66
  go_wp2_with fail
  go_loopw [1, 2] (fun v1 v2 wr => v1 = .int .i64 0 ∧ v2 = .int .i64 (l0.length : Int) ∧ wr = W0) (fun _ _ _ => 0)
  case atStart => exact ⟨rfl, rfl, rfl⟩
  case round =>
    obtain ⟨rfl, rfl, rfl⟩ := hrel
    go_wp2_with fail
    refine hi.out.mono ?_
    rintro e w1 ⟨rfl, l', h1, h2, h3⟩
    go_wp2_with fail
    (try simp only [Exit.inBlock, Exit.then])
    refine bodyPost_ret (results_none rfl _ _ _) rfl ?_
    exact ⟨rfl, l', h1, h2, h3⟩

/-- a row of the call's own of few numbers, as a row that is written in place -/
theorem OwnN.row {W : World} {B : Nat} {v : Value} {ss : List Nat} (h : OwnN W B v ss) : (v = .slice none 0 0 ∧ ss = []) ∨ ∃ g rest cap, v = .slice (some ⟨g, 0, none⟩) ss.length cap ∧ B ≤ g ∧ (∀ W' (ts : List Nat), ts.length = ss.length → Row W' g ts rest → OwnN W' B (.slice (some ⟨g, 0, none⟩) ss.length cap) ts) ∧ Row W g ss rest := by
  rcases h.2 with ⟨rfl, hn⟩ | ⟨g, cap, cur, rfl, hb, hg, hc, hm, hs, ht⟩
  · exact .inl ⟨rfl, List.eq_nil_of_length_eq_zero hn⟩
  · refine .inr ⟨g, cur.toList.drop (ss.length * 1), cap, rfl, hb, ?_, ?_⟩
    · intro W' ts hl hr
      unfold Row at hr
      refine ⟨by simp, .inr ⟨g, cap, _, by rw [hl], hb, hr, by omega, hm, ?_, ?_⟩⟩
      · simp
        omega
      · simp
    · unfold Row
      rw [← ht, List.take_append_drop]
      exact hg
set_option maxRecDepth 100000 in
set_option maxHeartbeats 4000000 in
theorem insertion_nil (W0 : World) : Calls Try.prog 72 #[.slice none 0 0, .int .i64 0, .int .i64 0] W0 fun e W' => e = .returned (.tuple #[]) ∧ W' = W0 := by
  go_enter Try.func72, Try.ntmps72
  go_wp2_with fail
  go_loopw [6] (fun v6 wr => v6 = .int .i64 1 ∧ wr = W0) (fun _ _ => 0)
  case atStart => exact ⟨rfl, rfl⟩
  case round =>
    obtain ⟨rfl, rfl⟩ := hrel
    go_wp2_with fail
    go_end0
    exact ⟨rfl, rfl⟩
set_option maxRecDepth 100000 in
set_option maxHeartbeats 4000000 in
theorem pdq_nil (k : Int) (W0 : World) :
    Calls Try.prog 66 #[.slice none 0 0, .int .i64 0, .int .i64 0, .int .i64 k] W0 fun e W' => e = .returned (.tuple #[]) ∧ W' = W0 := by
  have hi := Lib.hid insertion_nil
  go_enter Try.func66, Try.ntmps66
  go_wp2_with fail
  go_loopw [1, 2] (fun v1 v2 wr => v1 = .int .i64 0 ∧ v2 = .int .i64 0 ∧ wr = W0) (fun _ _ _ => 0)
  case atStart => exact ⟨rfl, rfl, rfl⟩
  case round =>
    obtain ⟨rfl, rfl, rfl⟩ := hrel
    go_wp2_with fail
    refine (hi.out _).mono ?_
    rintro e w1 ⟨rfl, rfl⟩
    go_wp2_with fail
    (try simp only [Exit.inBlock, Exit.then])
    refine bodyPost_ret (results_none rfl _ _ _) rfl ?_
    exact ⟨rfl, rfl⟩
theorem Kept1.below {W W' : World} {g B : Nat} (h : Kept1 W g W') (hb : B ≤ g) (hs : B ≤ W.heap.size) : Below B W W' where
  os := h.1
  tape := h.2.1
  output := h.2.2.1
  size := h.2.2.2.1
  block := fun k hk => h.2.2.2.2 k (by omega) (by omega)
theorem SortedOn.pairwise {l : List Nat} (h : SortedOn l 0 l.length) : l.Pairwise (· ≤ ·) := by
  rw [List.pairwise_iff_getElem]
  intro i j hi hj hij
  have := h i j (Nat.zero_le _) hij hj
  rwa [at_lt hi, at_lt hj] at this
set_option maxRecDepth 100000 in
set_option maxHeartbeats 4000000 in
theorem sort_few : SortOk 12 := by
  intro W B v ss hlen hB hown
  rcases hown.row with ⟨rfl, rfl⟩ | ⟨g, rest, cap, rfl, hg, hback, hrow⟩
  · have hp := Lib.hid pdq_nil
    replace hown := Lib.hid hown
    have hl := Lib.hid (fun (w : World) => Try.bits_Len 0 w (by omega) (by omega))
    go_enter Try.func57, Try.ntmps57
    go_wp2_with fail
    refine (hl.out _).mono ?_
    rintro e w1 ⟨rfl, rfl⟩
    go_wp2_with fail
    refine (hp.out _ _).mono ?_
    rintro e w1 ⟨rfl, rfl⟩
    go_wp2_with fail
    go_end0
    exact ⟨rfl, [], hown, Lib.hid ⟨List.Perm.refl _, List.Pairwise.nil⟩, Lib.hid (Below.refl B _)⟩
  · have hp := Lib.hid (fun k => pdq_few g cap ss rest k hlen W hrow)
    replace hback := Lib.hid hback
    have hl := Lib.hid (fun (w : World) => Try.bits_Len (ss.length : Int) w (by omega) (by omega))
    clear hrow hown
    go_enter Try.func57, Try.ntmps57
    go_wp2_with fail
    refine (hl.out _).mono ?_
    rintro e w1 ⟨rfl, rfl⟩
    go_wp2_with fail
    refine (hp.out _).mono ?_
    rintro e w1 ⟨rfl, l', h1, h2, h3⟩
    have g1 := Lib.hid (hback.out w1 l' h2.out.1.len h1.out)
    have g2 := Lib.hid (And.intro h2.out.1.1 (SortedOn.pairwise (by rw [h2.out.1.len]; exact h2.out.2)))
    have g3 := Lib.hid (h3.out.below hg hB)
    go_wp2_with fail
    go_end0
    exact ⟨rfl, l', g1, g2, g3⟩
end Go.Proofs.Ytcnebfmlelcliaa
namespace Go.Proofs.Ytcnebfmlelcliaa
open Go.RowKit

theorem bitLen_small {n : Nat} (h : n ≤ 1048576) : Lib.bitLen n ≤ 1000 := Nat.le_trans (Lib.bitLen_le n 62 (by omega) (by omega)) (by omega)
set_option maxRecDepth 100000 in
set_option maxHeartbeats 4000000 in
theorem sort_all : SortOk 1000000 := by
  intro W B v ss hlen hB hown
  rcases hown.row with ⟨rfl, rfl⟩ | ⟨g, rest, cap, rfl, hg, hback, hrow⟩
  · have hp := Lib.hid pdq_nil
    replace hown := Lib.hid hown
    have hl := Lib.hid (fun (w : World) => Try.bits_Len 0 w (by omega) (by omega))
    go_enter Try.func57, Try.ntmps57
    go_wp2_with fail
    refine (hl.out _).mono ?_
    rintro e w1 ⟨rfl, rfl⟩
    go_wp2_with fail
    refine (hp.out _ _).mono ?_
    rintro e w1 ⟨rfl, rfl⟩
    go_wp2_with fail
    go_end0
    exact ⟨rfl, [], hown, Lib.hid ⟨List.Perm.refl _, List.Pairwise.nil⟩, Lib.hid (Below.refl B _)⟩
  · have hbl := bitLen_small (n := ss.length) (by omega)
    obtain ⟨lim, hlim⟩ : ∃ lim, Lib.bitLen ss.length = lim := ⟨_, rfl⟩
    rw [hlim] at hbl
    have hp := Lib.hid (pdq_all (ss.length - 0) g cap ss rest 0 ss.length lim W rfl (Nat.zero_le _) (Nat.le_refl _) (by omega) (fun q h0 _ _ => by omega) hbl hrow)
    replace hback := Lib.hid hback
    have hl := Lib.hid (fun (w : World) => Try.bits_Len (ss.length : Int) w (by omega) (by omega))
    rw [Int.toNat_natCast, hlim] at hl
    clear hrow hown hlim hbl
    go_enter Try.func57, Try.ntmps57
    go_wp2_with fail
    refine (hl.out _).mono ?_
    rintro e w1 ⟨rfl, rfl⟩
    go_wp2_with fail
    refine hp.out.mono ?_
    rintro e w1 ⟨rfl, l', h1, h2, h3⟩
    have g1 := Lib.hid (hback.out w1 l' h2.out.1.len h1.out)
    have g2 := Lib.hid (And.intro h2.out.1.1 (SortedOn.pairwise (by rw [h2.out.1.len]; exact h2.out.2)))
    have g3 := Lib.hid (h3.out.below hg hB)
    go_wp2_with fail
    go_end0
    exact ⟨rfl, l', g1, g2, g3⟩
end Go.Proofs.Ytcnebfmlelcliaa
namespace Go.Proofs.Ytcnebfmlelcliaa
open Go.RowKit Go.Maps

/-- one number more, greater than all before -/
def normStep (out : List Rng) (n : Nat) : List Rng := match out.getLast? with
  | some r => if r.2 + 1 = n then out.dropLast ++ [(r.1, n)] else out ++ [(n, n)]
  | none => [(n, n)]
def normF (ts : List Nat) : List Rng := ts.foldl normStep []
theorem normStep_on (i : List Rng) (a b n : Nat) (h : b + 1 = n) : normStep (i ++ [(a, b)]) n = i ++ [(a, n)] := by
  unfold normStep
  rw [List.getLast?_append]
  simp [h]
theorem normStep_new (i : List Rng) (a b n : Nat) (h : b + 1 ≠ n) : normStep (i ++ [(a, b)]) n = i ++ [(a, b)] ++ [(n, n)] := by
  unfold normStep
  rw [List.getLast?_append]
  simp [h]
theorem normStep_len (out : List Rng) (n : Nat) : (normStep out n).length ≤ out.length + 1 := by
  unfold normStep
  split
  · split
    · simp
    · simp
  · simp
theorem normF_snoc (ts : List Nat) (n : Nat) : normF (ts ++ [n]) = normStep (normF ts) n := by rw [normF, List.foldl_append]; rfl
theorem normF_len : ∀ (ts : List Nat) (out : List Rng), (ts.foldl normStep out).length ≤ out.length + ts.length
  | [], out => Nat.le_refl _
  | n :: r, out => by
    have := normF_len r (normStep out n)
    have := normStep_len out n
    rw [List.foldl_cons, List.length_cons]; omega
/-- the numbers of a list that are not nought, each once, rising -/
def Rising (of ts : List Nat) : Prop := (ts.Nodup ∧ ts.Pairwise (· ≤ ·)) ∧ ∀ x : Nat, x ∈ ts ↔ 0 < x ∧ x ∈ of
def NormRet (of : List Nat) (w : World) (e : Ending) (w' : World) : Prop := ∃ (v : Value) (ts : List Nat), e = .returned v ∧ Hid (Rising of ts) ∧ Hid (OwnR w' w.heap.size v (normF ts)) ∧ Hid (Below w.heap.size w w')
theorem OwnR.at_last {w : World} {B g cap : Nat} {i : List Rng} {a b : Nat} (h : OwnR w B (.slice (some ⟨g, 0, none⟩) (i.length + 1) cap) (i ++ [(a, b)])) :
    w.cell? ⟨g, i.length * 2 + 1, none⟩ = some (.int .u64 b) ∧ w.frozen? ⟨g, i.length * 2 + 1, none⟩ = false ∧ B ≤ g ∧ ∀ c : Nat, OwnR (w.setCell ⟨g, i.length * 2 + 1, none⟩ (.int .u64 c)) B (.slice (some ⟨g, 0, none⟩) (i.length + 1) cap) (i ++ [(a, c)]) := by
  rcases h.2 with ⟨hv, _⟩ | ⟨g', cap', cur, hv, hB, hg, hle, hm, hs, htk⟩
  · cases hv
  · have hl : (i ++ [(a, b)]).length = i.length + 1 := by simp
    rw [hl] at hle htk hv
    cases hv
    have hri := rangesCells_len i
    have e1 : rangesCells (i ++ [(a, b)]) = rangesCells i ++ [.int .u64 a, .int .u64 b] := rangesCells_app i [(a, b)]
    have hlt : i.length * 2 + 1 < cur.size := by omega
    refine ⟨?_, ?_, hB, fun c => ⟨rangesCells_len _, .inr ⟨g, cap, cur.setIfInBounds (i.length * 2 + 1) (.int .u64 c), by simp, hB, ?_, by simpa using hle, hm, by simpa using hs, ?_⟩⟩⟩
    · have h1 : cur.toList[i.length * 2 + 1]? = (rangesCells (i ++ [(a, b)]))[i.length * 2 + 1]? := by
        rw [← htk, List.getElem?_take_of_lt (by omega)]
      rw [e1, List.getElem?_append_right (by omega), hri] at h1
      simp only [World.cell?, hg]
      rw [← Array.getElem?_toList, h1]
      simp
    · simp [World.frozen?, hg]
    · simp only [World.setCell, Array.getElem?_modify, hg, if_true, Option.map_some]
      rfl
    · have e2 : rangesCells (i ++ [(a, c)]) = rangesCells i ++ [.int .u64 a, .int .u64 c] := rangesCells_app i [(a, c)]
      have hl2 : (i ++ [(a, c)]).length = i.length + 1 := by simp
      rw [hl2, e2, Array.toList_setIfInBounds, List.take_set, htk, e1, List.set_append_right _ _ (by omega), hri]
      simp
theorem own_below {H : Type} {w w' : World} {P : Program} {k : TypeId} {R : Value → Option (DataW H × List MemPlace)} {b n : Nat} {D : DataW H} (h : w.ownsMap P k R b n D) (hb : Below w.heap.size w w') : w'.ownsMap P k R b n D := by
  have hbl := h.lt
  obtain ⟨es, clock, hbk, Ft, hs, hD⟩ := h
  exact ⟨es, clock, (hb.block b hbl).trans hbk, Ft, hs, hD⟩
theorem OwnR.low {w : World} {B B' : Nat} {v : Value} {l : List Rng} (h : OwnR w B v l) (hB : B' ≤ B) : OwnR w B' v l := by
  refine ⟨h.1, ?_⟩
  rcases h.2 with h2 | ⟨g, cap, cur, hv, hb, r⟩
  · exact .inl h2
  · exact .inr ⟨g, cap, cur, hv, Nat.le_trans hB hb, r⟩
set_option maxRecDepth 100000 in
set_option maxHeartbeats 4000000 in
theorem norm_any {N : Nat} (hsort : SortOk N) (of : List Nat) (v : Value) (w : World) (hr : Rd w v of.length (of.map encU)) (hN : of.length ≤ N) (hof : of.length ≤ 1000000) (hu : ∀ x ∈ of, x < 18446744073709551616) :
    Calls Try.prog 34 #[v] w (NormRet of w) := by
  have hr0 := Lib.hid hr
  obtain ⟨ao, cap, rfl, -⟩ := hr
  have hmm := @run_makeMap Try.prog
  replace hu := Lib.hid hu
  replace hsort := Lib.hid hsort
  go_enter Try.func34, Try.ntmps34
  go_wp2_with fail
  go_loopw [13] (fun v13 wr => ∃ (k : Nat) (D : DataW Unit), v13 = .int .i64 k ∧ k ≤ of.length ∧ Hid (wr.ownsMap Try.prog 22 (plainElem Try.prog 3) w.heap.size k D) ∧ Hid (∀ x : Nat, Maps.has D (.int .u64 x) = decide (0 < x ∧ x ∈ of.take k)) ∧ Hid (Below w.heap.size w wr)) (fun v13 _ => of.length - (intOf v13).toNat)
  case atStart =>
    refine ⟨0, _, rfl, Nat.zero_le _, Lib.hid (World.ownsMap_made _ _ _ _), Lib.hid (fun x => ?_), Lib.hid ((Below.refl _ _).alloc (Nat.le_refl _) _)⟩
    simp [Maps.has]
  case round =>
    obtain ⟨k, D, rfl, hk, hown, hhas, hb⟩ := hrel
    have hsz := hb.out.size
    by_cases hlt : k < of.length
    · obtain ⟨b, o, hao, hbl, hcell⟩ := hr0.out.at_pos (by omega)
      subst hao
      have hcw := (hb.out.cell (p := ⟨b, o + k, none⟩) hbl).trans (num_cell hcell hlt)
      have hx64 := hu.out _ (List.getElem_mem hlt)
      have htk : of.take (k + 1) = of.take k ++ [of[k]] := List.take_succ_eq_append_getElem hlt
      generalize of[k] = x at hcw hx64 htk
      clear hcell
      by_cases hx0 : 0 < x
      · have hkey : keyOf Try.prog 22 (.int .u64 (x : Int)) = some (.int .u64 (x : Int)) := keyOf_int_mk Try.underlying22 (by
          have h1 : IntKind.u64.min = 0 := by decide
          have h2 : IntKind.u64.max = 18446744073709551615 := by decide
          simp [Lit.wf, h1, h2]; omega)
        have hhas2 : ∀ d : DataW Unit, Hid (∀ y : Nat, Maps.has (D.put (.int .u64 (x : Int)) d) (.int .u64 y) = decide (0 < y ∧ y ∈ of.take (k + 1))) := fun d => Lib.hid (fun y => by
          by_cases hy : y = x
          · subst hy
            rw [Maps.has_put_same (k := .int .u64 (y : Int)) hown.out.isMap (show WideAt.IsKeyLit (.int .u64 (y : Int)) from trivial), htk, decide_eq_true ⟨hx0, by simp⟩]
          · rw [Maps.has_put_other (fun e => hy (by injection e with _ e2; omega)), hhas.out y, htk]
            simp [hy])
        have hd : decide ((0 : Int) < (x : Int)) = true := by simp; omega
        replace hkey := Lib.hid hkey
        clear htk hhas
        go_wp2_with (first
          | (at_lookup; refine wpList_lookup_own_int _ rfl _ _ 89 rfl 22 3 .i64 (int_keyed Try.underlying22) Try.underlying89 Try.underlying3 (Try.zeroValue3 _) w.heap.size k D rfl hown.out _ _ rfl hkey.out ?_; intro c hat hwc)
          | (at_mapUpdate; refine wpList_mapUpdate_own _ rfl _ _ _ 89 rfl 22 3 (int_keyed Try.underlying22) Try.underlying89 _ w.heap.size k D rfl hown.out (by unfold maxLen; omega) _ _ _ rfl rfl hkey.out _ [] (plainElem_int Try.underlying3 (wrap64_wf _)) ?_; intro w1 hown1 hgrow1))
        have hb1 := Lib.hid (hb.out.grown hgrow1 hsz (fun j e => by cases e; exact Nat.le_refl _))
        replace hown1 := Lib.hid hown1
        clear hgrow1 hown hb hat
        go_wp2_with fail
        go_roundw
        case rel => exact ⟨k + 1, _, by go_num, by omega, hown1, hhas2 _, hb1⟩
        case measure => simp [intOf] <;> omega
      · obtain rfl : x = 0 := by omega
        have hhas2 : Hid (∀ x : Nat, Maps.has D (.int .u64 x) = decide (0 < x ∧ x ∈ of.take (k + 1))) := Lib.hid (fun y => by
          rw [hhas.out y, htk]
          by_cases hy : 0 < y
          · have : ¬ y = 0 := by omega
            simp [hy, this]
          · simp [hy])
        clear hx0 htk hhas
        go_wp2_with fail
        go_roundw
        case rel => exact ⟨k + 1, D, by go_num, by omega, Lib.hid (hown.out.mono (Nat.le_succ _)), hhas2, hb⟩
        case measure => simp [intOf] <;> omega
    · obtain rfl : k = of.length := by omega
      rw [List.take_length] at hhas
      have hsize : Maps.size D ≤ of.length := hown.out.size_le
      obtain ⟨W2, hW2⟩ : ∃ W2, W2 = wr.alloc (.cells #[.map (some w.heap.size)] 89) := ⟨_, rfl⟩
      have hbx : Below wr.heap.size wr W2 := by rw [hW2]; exact (Below.refl _ wr).alloc (Nat.le_refl _) _
      have hbw : Below w.heap.size w W2 := hb.out.trans (hbx.mono hsz)
      have hm2 : W2.cell? ⟨wr.heap.size, 0, none⟩ = some (.map (some w.heap.size)) := by rw [hW2]; exact (Boxed.new wr _ _).cell
      have hz2 : wr.heap.size < W2.heap.size := by rw [hW2]; simp
      have hs := Lib.hid (sorted_any hsort.out wr.heap.size w.heap.size of.length D W2 hz2 hm2 (own_below hown.out hbx) (by omega) (by omega))
      have hki := Lib.hid (keys_in (some w.heap.size) wr)
      replace hbw := Lib.hid hbw
      clear hm2 hown hbx hmm
      go_wp2_with fail
      refine hki.out.mono ?_
      rintro e w1 ⟨rfl, rfl⟩
      rw [← hW2]
      clear hki hW2
      go_wp2_with fail
      refine hs.out.mono ?_
      rintro e w3 ⟨v3, ts, rfl, hks, hown3, hb3⟩
      have hri : Hid (Rising of ts) := Lib.hid ⟨⟨hks.out.1.1.1, hks.out.2⟩, fun x => by rw [hks.out.1.1.2 x, hhas.out x]; simp⟩
      have htl : ts.length ≤ of.length := Nat.le_trans hks.out.1.2 hsize
      have hbw3 := Lib.hid (hbw.out.trans (hb3.out.mono hbw.out.size))
      have hrd3 := Lib.hid hown3.out.rd
      have hpos := Lib.hid (fun x (hx : x ∈ ts) => And.intro ((hri.out.2 x).1 hx).1 (hu.out x ((hri.out.2 x).1 hx).2))
      obtain ⟨ao3, cap3, rfl⟩ := hown3.out.len
      clear hs hown3 hks hhas hb3 hbw hb
      go_wp2_with fail
      go_loopw [6, 28] (fun v6 v28 wq => ∃ q : Nat, v28 = .int .i64 q ∧ q ≤ ts.length ∧ Hid (OwnR wq w3.heap.size v6 (normF (ts.take q))) ∧ Hid (Below w3.heap.size w3 wq)) (fun _ v28 _ => ts.length - (intOf v28).toNat)
      case atStart => exact ⟨0, rfl, Nat.zero_le _, Lib.hid (OwnR.nil _ _), Lib.hid (Below.refl _ _)⟩
      case round =>
        obtain ⟨q, rfl, hq, hown, hb⟩ := hrel
        have hsq := hb.out.size
        by_cases hlt2 : q < ts.length
        · obtain ⟨b3, o3, hao3, hbl3, hcell3⟩ := hrd3.out.at_pos (by omega)
          subst hao3
          have hcw3 := (hb.out.cell (p := ⟨b3, o3 + q, none⟩) hbl3).trans (num_cell hcell3 hlt2)
          have hxp := hpos.out _ (List.getElem_mem hlt2)
          have hst : normF (ts.take (q + 1)) = normStep (normF (ts.take q)) ts[q] := by rw [List.take_succ_eq_append_getElem hlt2, normF_snoc]
          have hol : (normF (ts.take q)).length ≤ q := by
            have := normF_len (ts.take q) []
            rw [List.length_take] at this
            show (List.foldl normStep [] (ts.take q)).length ≤ q
            simp at this; omega
          generalize ts[q] = x at hcw3 hxp hst
          generalize normF (ts.take q) = out at hown hst hol
          have hwr : IntKind.u64.wrap ((x : Int) - 1) = (x : Int) - 1 := by rw [IntKind.wrap_u64]; have := hxp.1; have := hxp.2; omega
          have hx1 : 1 ≤ x := hxp.1
          clear hcell3 hxp
          rcases List.eq_nil_or_concat out with rfl | ⟨i, ⟨a, b⟩, rfl⟩
          · have hst2 : Hid (normF (ts.take (q + 1)) = [] ++ [(x, x)]) := Lib.hid hst
            obtain ⟨a0, c0, rfl⟩ := hown.out.len
            have hown0 : Hid (OwnR wr w3.heap.size (.slice a0 0 c0) []) := hown
            clear hst
            go_wp2_with (at_builtin; refine wpList_append_range (W := wr) rfl _ _ rfl w3.heap.size (.slice a0 0 c0) [] x x rfl rfl hown0.out (by decide) hsq ?_)
            intro v6 w4 ho4 hb4
            have hB4 := Lib.hid (hb.out.trans hb4)
            have ho5 : Hid (OwnR w4 w3.heap.size v6 (normF (ts.take (q + 1)))) := Lib.hid (by rw [hst2.out]; exact ho4)
            clear ho4 hb4 hown hb
            go_wp2_with fail
            go_roundw
            case rel => exact ⟨q + 1, by go_num, by omega, ho5, hB4⟩
            case measure => simp [intOf] <;> omega
          · rw [List.concat_eq_append] at hown hst hol
            obtain ⟨g, cap6, hv6⟩ : ∃ g cap6, u6 = .slice (some ⟨g, 0, none⟩) (i.length + 1) cap6 := by
              rcases hown.out.2 with ⟨_, h0⟩ | ⟨g, cap6, cur, hv, _⟩
              · simp at h0
              · exact ⟨g, cap6, by rw [hv]; simp⟩
            subst hv6
            obtain ⟨cl, fl, hBg, hset⟩ := hown.out.at_last
            have hil : i.length + 1 ≤ 1000000 := by simp at hol; omega
            have hoc := hown.out.len
            by_cases hbx : b + 1 = x
            · have hst2 : Hid (normF (ts.take (q + 1)) = i ++ [(a, x)]) := Lib.hid (by rw [hst, normStep_on _ _ _ _ hbx])
              have hq1 : ((b : Int) == (x : Int) - 1) = true := beq_iff_eq.2 (by omega)
              have hs6 := Lib.hid (hset x)
              have hB6 := Lib.hid (hb.out.setCell (p := ⟨g, i.length * 2 + 1, none⟩) hBg (.int .u64 x))
              have hcl : w3.heap.size ≤ g := hBg
              clear hst hset hoc hbx hown hb
              have ho5 : Hid (OwnR (wr.setCell ⟨g, i.length * 2 + 1, none⟩ (.int .u64 x)) w3.heap.size (.slice (some ⟨g, 0, none⟩) (i.length + 1) cap6) (normF (ts.take (q + 1)))) := Lib.hid (by rw [hst2.out]; exact hs6.out)
              clear hs6 hst2
              generalize i.length = L at cl fl hil hB6 ho5 hol ⊢
              go_wp2_with fail
              go_roundw
              case rel => exact ⟨q + 1, by go_num, by omega, ho5, hB6⟩
              case measure => simp [intOf] <;> omega
            · have hst2 : Hid (normF (ts.take (q + 1)) = i ++ [(a, b)] ++ [(x, x)]) := Lib.hid (by rw [hst, normStep_new _ _ _ _ hbx])
              have hq1 : ((b : Int) == (x : Int) - 1) = false := beq_eq_false_iff_ne.2 (by omega)
              have hln : (i ++ [(a, b)]).length = i.length + 1 := by simp
              have hown0 : Hid (OwnR wr w3.heap.size (.slice (some ⟨g, 0, none⟩) (i.length + 1) cap6) (i ++ [(a, b)])) := hown
              generalize i ++ [(a, b)] = out at hown0 hst2 hln
              clear hst hset hoc hbx hown hol hBg
              generalize i.length = L at cl fl hil hown0 hln ⊢
              go_wp2_with (at_builtin; refine wpList_append_range (W := wr) rfl _ _ rfl w3.heap.size (.slice (some ⟨g, 0, none⟩) (L + 1) cap6) out x x rfl rfl hown0.out (by omega) hsq ?_)
              intro v6 w4 ho4 hb4
              have hB4 := Lib.hid (hb.out.trans hb4)
              have ho5 : Hid (OwnR w4 w3.heap.size v6 (normF (ts.take (q + 1)))) := Lib.hid (by rw [hst2.out]; exact ho4)
              clear ho4 hb4 hb
              go_wp2_with fail
              go_roundw
              case rel => exact ⟨q + 1, by go_num, by omega, ho5, hB4⟩
              case measure => simp [intOf] <;> omega
        · obtain rfl : q = ts.length := by omega
          rw [List.take_length] at hown
          have hz3 := hbw3.out.size
          go_wp2_with fail
          go_ret
          exact ⟨_, ts, rfl, hri, Lib.hid (OwnR.low hown.out hz3), Lib.hid (hbw3.out.trans (hb.out.mono hz3))⟩
end Go.Proofs.Ytcnebfmlelcliaa
namespace Go.Proofs.Ytcnebfmlelcliaa
open Go.RowKit

structure NInv (ts : List Nat) (rs : List Rng) : Prop where
  one : ∀ r ∈ rs, 1 ≤ r.1 ∧ r.1 ≤ r.2
  gap : rs.Pairwise (fun p q => p.2 + 2 ≤ q.1)
  mem : ∀ x, (∃ r ∈ rs, r.1 ≤ x ∧ x ≤ r.2) ↔ x ∈ ts
  last : ∀ i r, rs = i ++ [r] → r.2 ∈ ts ∧ ∀ t ∈ ts, t ≤ r.2
  nil : rs = [] → ts = []
theorem NInv.snoc {ts : List Nat} {rs : List Rng} (h : NInv ts rs) (n : Nat) (hn : 1 ≤ n) (hlt : ∀ t ∈ ts, t < n) : NInv (ts ++ [n]) (normStep rs n) := by
  rcases List.eq_nil_or_concat rs with rfl | ⟨i, ⟨a, b⟩, rfl⟩
  · have e : ts = [] := h.nil rfl
    subst e
    have e2 : normStep [] n = [(n, n)] := rfl
    rw [e2]
    refine ⟨fun r hr => ?_, List.pairwise_singleton _ _, fun x => ?_, fun i r hr => ?_, fun h => by cases h⟩
    · rw [List.mem_singleton.1 hr]; exact ⟨hn, Nat.le_refl _⟩
    · simp
      exact ⟨fun h => by omega, fun h => by omega⟩
    · cases i with
      | nil => simp at hr; subst hr; simp
      | cons y i => simp at hr
  · rw [List.concat_eq_append] at h ⊢
    obtain ⟨hb, hbl⟩ := h.last i (a, b) rfl
    have hbn := hlt b hb
    have hab := h.one (a, b) (by simp)
    dsimp only at hab
    by_cases e : b + 1 = n
    · rw [normStep_on _ _ _ _ e]
      refine ⟨fun r hr => ?_, ?_, fun x => ?_, fun i' r hr => ?_, fun h => by simp at h⟩
      · rcases List.mem_append.1 hr with hr | hr
        · exact h.one r (by simp [hr])
        · rw [List.mem_singleton.1 hr]; dsimp only; omega
      · have := h.gap
        rw [List.pairwise_append] at this ⊢
        refine ⟨this.1, List.pairwise_singleton _ _, fun p hp q hq => ?_⟩
        rw [List.mem_singleton.1 hq]
        exact this.2.2 p hp (a, b) (by simp)
      · rw [List.mem_append, ← h.mem x]
        constructor
        · rintro ⟨r, hr, h1, h2⟩
          rcases List.mem_append.1 hr with hr | hr
          · exact .inl ⟨r, by simp [hr], h1, h2⟩
          · rw [List.mem_singleton.1 hr] at h1 h2
            dsimp only at h1 h2
            by_cases hx : x = n
            · exact .inr (by simp [hx])
            · exact .inl ⟨(a, b), by simp, h1, by dsimp only; omega⟩
        · rintro (⟨r, hr, h1, h2⟩ | hx)
          · rcases List.mem_append.1 hr with hr | hr
            · exact ⟨r, by simp [hr], h1, h2⟩
            · rw [List.mem_singleton.1 hr] at h1 h2
              exact ⟨(a, n), by simp, h1, by dsimp only at h2 ⊢; omega⟩
          · rw [List.mem_singleton.1 hx]
            exact ⟨(a, n), by simp, by dsimp only; omega, Nat.le_refl _⟩
      · obtain ⟨_, e2⟩ := List.append_inj' hr rfl
        obtain rfl : (a, n) = r := by simpa using e2
        refine ⟨by simp, fun t ht => ?_⟩
        rcases List.mem_append.1 ht with ht | ht
        · have := hlt t ht; dsimp only; omega
        · rw [List.mem_singleton.1 ht]; exact Nat.le_refl _
    · rw [normStep_new _ _ _ _ e]
      refine ⟨fun r hr => ?_, ?_, fun x => ?_, fun i' r hr => ?_, fun h => by simp at h⟩
      · rcases List.mem_append.1 hr with hr | hr
        · exact h.one r hr
        · rw [List.mem_singleton.1 hr]; exact ⟨hn, Nat.le_refl _⟩
      · rw [List.pairwise_append]
        refine ⟨h.gap, List.pairwise_singleton _ _, fun p hp q hq => ?_⟩
        rw [List.mem_singleton.1 hq]
        dsimp only
        have : p.2 ∈ ts := (h.mem p.2).1 ⟨p, hp, (h.one p hp).2, Nat.le_refl _⟩
        have := hbl _ this
        dsimp only at this
        omega
      · rw [List.mem_append, ← h.mem x]
        constructor
        · rintro ⟨r, hr, h1, h2⟩
          rcases List.mem_append.1 hr with hr | hr
          · exact .inl ⟨r, hr, h1, h2⟩
          · rw [List.mem_singleton.1 hr] at h1 h2
            dsimp only at h1 h2
            exact .inr (by simp; omega)
        · rintro (⟨r, hr, h1, h2⟩ | hx)
          · exact ⟨r, List.mem_append_left _ hr, h1, h2⟩
          · rw [List.mem_singleton.1 hx]
            exact ⟨(n, n), by simp, Nat.le_refl _, Nat.le_refl _⟩
      · obtain ⟨_, e2⟩ := List.append_inj' hr rfl
        obtain rfl : (n, n) = r := by simpa using e2
        refine ⟨by simp, fun t ht => ?_⟩
        rcases List.mem_append.1 ht with ht | ht
        · have := hlt t ht; dsimp only; omega
        · rw [List.mem_singleton.1 ht]; exact Nat.le_refl _
theorem NInv.nil0 : NInv [] (normF []) := ⟨fun r hr => by simp [normF] at hr, List.Pairwise.nil, fun x => by simp [normF], fun i r hr => by simp [normF] at hr, fun _ => rfl⟩
theorem ninv_all (ts : List Nat) (h1 : ∀ t ∈ ts, 1 ≤ t) (h2 : ts.Pairwise (· < ·)) : NInv ts (normF ts) := by
  have key : ∀ k, k ≤ ts.length → NInv (ts.take k) (normF (ts.take k)) := fun k => by
    induction k with
    | zero => intro _; exact NInv.nil0
    | succ k ih =>
      intro hk
      have e := List.take_succ_eq_append_getElem (l := ts) (show k < ts.length by omega)
      rw [e, normF_snoc]
      refine (ih (by omega)).snoc _ (h1 _ (List.getElem_mem _)) (fun t ht => ?_)
      obtain ⟨j, hj, rfl⟩ := List.mem_iff_getElem.1 ht
      rw [List.length_take] at hj
      rw [List.getElem_take]
      exact List.pairwise_iff_getElem.1 h2 j k (by omega) (by omega) (by omega)
  have := key ts.length (Nat.le_refl _)
  rwa [List.take_length] at this
theorem Rising.ninv {of ts : List Nat} (h : Rising of ts) : NInv ts (normF ts) := by
  refine ninv_all ts (fun t ht => ((h.2 t).1 ht).1) ?_
  have := h.1.1
  refine (List.pairwise_iff_getElem.2 fun i j hi hj hij => ?_)
  have e1 := List.pairwise_iff_getElem.1 h.1.2 i j hi hj hij
  have e2 := List.pairwise_iff_getElem.1 this i j hi hj hij
  omega
theorem hasOne_iff {r : Rng} (h : 1 ≤ r.1 ∧ r.1 ≤ r.2) (x : Nat) : hasOne 0 x r = true ↔ r.1 ≤ x ∧ x ≤ r.2 := by
  unfold hasOne realI
  rw [if_neg (by omega), if_neg (by omega)]
  simp only [Bool.and_eq_true, decide_eq_true_eq]
  omega
theorem NInv.has {ts : List Nat} {rs : List Rng} (h : NInv ts rs) (x : Nat) : hasL rs 0 x = decide (x ∈ ts) := by
  rw [Bool.eq_iff_iff, decide_eq_true_eq, ← h.mem x]
  unfold hasL
  rw [List.any_eq_true]
  exact ⟨fun ⟨r, hr, hx⟩ => ⟨r, hr, (hasOne_iff (h.one r hr) x).1 hx⟩, fun ⟨r, hr, hx⟩ => ⟨r, hr, (hasOne_iff (h.one r hr) x).2 hx⟩⟩
end Go.Proofs.Ytcnebfmlelcliaa
namespace Go.Proofs.Ytcnebfmlelcliaa
open Go.RowKit

/-- does a number stand in the first k of a list -/
def standsB (of : List Nat) (k x : Nat) : Bool := decide (x ∈ of.take k ∧ 0 < x)
theorem standsB_step {of : List Nat} {k x : Nat} (h : k < of.length) : standsB of (k + 1) x = (standsB of k x || (of[k] == x && decide (0 < of[k]))) := by
  unfold standsB
  rw [List.take_succ_eq_append_getElem h, Bool.eq_iff_iff]
  simp only [List.mem_append, List.mem_singleton, decide_eq_true_eq, Bool.or_eq_true, Bool.and_eq_true, beq_iff_eq]
  constructor
  · rintro ⟨h1 | h1, h2⟩
    · exact .inl ⟨h1, h2⟩
    · exact .inr ⟨h1.symm, by rw [← h1]; exact h2⟩
  · rintro (⟨h1, h2⟩ | ⟨h1, h2⟩)
    · exact ⟨.inl h1, h2⟩
    · exact ⟨.inr h1.symm, by rw [← h1]; exact h2⟩
theorem nodup_len : ∀ (ts of : List Nat), ts.Nodup → (∀ x ∈ ts, x ∈ of) → ts.length ≤ of.length
  | [], of, _, _ => Nat.zero_le _
  | t :: ts, of, hn, h => by
    have ht : t ∈ of := h t (by simp)
    have h2 := nodup_len ts (of.erase t) (List.nodup_cons.1 hn).2 (fun x hx => by
      have hne : x ≠ t := fun e => (List.nodup_cons.1 hn).1 (by rw [← e]; exact hx)
      exact (List.mem_erase_of_ne hne).2 (h x (by simp [hx])))
    rw [List.length_erase_of_mem ht] at h2
    have := List.length_pos_of_mem ht
    rw [List.length_cons]; omega
theorem rd_at {w : World} {v : Value} {l : List Nat} (h : Rd w v l.length (l.map encU)) {k : Nat} (hk : k < l.length) : ∃ b o cap, v = .slice (some ⟨b, o, none⟩) l.length cap ∧ b < w.heap.size ∧ w.cell? ⟨b, o + k, none⟩ = some (.int .u64 (l[k] : Nat)) := by
  obtain ⟨ao, cap, rfl, h0 | ⟨b, o, rfl, hb, _, hc⟩⟩ := h
  · omega
  · exact ⟨b, o, cap, rfl, hb, num_cell hc hk⟩
theorem rg_at {w : World} {v : Value} {l : List Rng} {B : Nat} (h : RangesIn w B v l) {k : Nat} (hk : k < l.length) : ∃ b o cap, v = .slice (some ⟨b, o, none⟩) l.length cap ∧ b < B ∧ ∀ j (hj : j < l.length), w.cell? ⟨b, o + j * 2, none⟩ = some (.int .u64 l[j].1) ∧ w.cell? ⟨b, o + j * 2 + 1, none⟩ = some (.int .u64 l[j].2) := by
  obtain ⟨ao, cap, rfl, h0 | ⟨b, o, rfl, hb, _, hc⟩⟩ := h
  · rw [h0] at hk; simp at hk
  · exact ⟨b, o, cap, rfl, hb, hc⟩
theorem NInv.top {ts : List Nat} {rs : List Rng} (h : NInv ts rs) (hu : ∀ t ∈ ts, t < 18446744073709551616) {i : Nat} (hi : i < rs.length) : rs[i].1 < 18446744073709551616 ∧ rs[i].2 < 18446744073709551616 := by
  have h1 := h.one _ (List.getElem_mem hi)
  have h2 := hu _ ((h.mem rs[i].2).1 ⟨_, List.getElem_mem hi, h1.2, Nat.le_refl _⟩)
  omega
end Go.Proofs.Ytcnebfmlelcliaa
namespace Go.Proofs.Ytcnebfmlelcliaa
open Go.RowKit

def lenV : Value → Nat
  | .slice _ n _ => n
  | _ => 0
def bs (of : List Nat) (last best y : Nat) : Nat :=
  if y = 1 ∧ last = 0 then 1 else if last < y ∧ y - 1 ∉ of ∧ (best = 0 ∨ y < best) then y else best
theorem bs_one {of : List Nat} {last best y : Nat} (h : y = 1 ∧ last = 0) : bs of last best y = 1 := if_pos h
theorem bs_set {of : List Nat} {last best y : Nat} (h : ¬ (y = 1 ∧ last = 0)) (h2 : last < y ∧ y - 1 ∉ of ∧ (best = 0 ∨ y < best)) : bs of last best y = y := by unfold bs; rw [if_neg h, if_pos h2]
theorem bs_keep {of : List Nat} {last best y : Nat} (h : ¬ (y = 1 ∧ last = 0)) (h2 : ¬ (last < y ∧ y - 1 ∉ of ∧ (best = 0 ∨ y < best))) : bs of last best y = best := by unfold bs; rw [if_neg h, if_neg h2]
def bestOf (of : List Nat) (last k : Nat) : Nat := (of.take k).foldl (bs of last) 0
theorem bestOf_step {of : List Nat} {last k : Nat} (h : k < of.length) : bestOf of last (k + 1) = bs of last (bestOf of last k) of[k] := by
  unfold bestOf
  rw [List.take_succ_eq_append_getElem h, List.foldl_append]; rfl
def Start (of : List Nat) (x : Nat) : Prop := x ∈ of ∧ 1 ≤ x ∧ (x = 1 ∨ x - 1 ∉ of)
structure BI (of seen : List Nat) (last best : Nat) : Prop where
  good : best = 0 ∨ (Start of best ∧ last < best)
  least : ∀ x ∈ seen, Start of x → last < x → best ≠ 0 ∧ best ≤ x
theorem BI.step {of seen : List Nat} {last best y : Nat} (h : BI of seen last best) (hy : y ∈ of) : BI of (seen ++ [y]) last (bs of last best y) := by
  by_cases h1 : y = 1 ∧ last = 0
  · rw [bs_one h1]
    refine ⟨.inr ⟨⟨by rw [← h1.1]; exact hy, Nat.le_refl _, .inl rfl⟩, by omega⟩, fun x _ hx _ => ⟨by omega, hx.2.1⟩⟩
  · by_cases h2 : last < y ∧ y - 1 ∉ of ∧ (best = 0 ∨ y < best)
    · rw [bs_set h1 h2]
      refine ⟨.inr ⟨⟨hy, by omega, .inr h2.2.1⟩, h2.1⟩, fun x hx hs hl => ?_⟩
      rcases List.mem_append.1 hx with hx | hx
      · have := h.least x hx hs hl
        omega
      · rw [List.mem_singleton.1 hx]
        omega
    · rw [bs_keep h1 h2]
      refine ⟨h.good, fun x hx hs hl => ?_⟩
      rcases List.mem_append.1 hx with hx | hx
      · exact h.least x hx hs hl
      · obtain rfl := List.mem_singleton.1 hx
        rcases hs.2.2 with h3 | h3
        · omega
        · by_cases h4 : best = 0 ∨ x < best
          · exact absurd ⟨hl, h3, h4⟩ h2
          · omega
theorem BI.all (of : List Nat) (last : Nat) : BI of of last (bestOf of last of.length) := by
  have key : ∀ k, k ≤ of.length → BI of (of.take k) last (bestOf of last k) := fun k => by
    induction k with
    | zero => intro _; exact ⟨.inl rfl, fun x hx => by simp at hx⟩
    | succ k ih =>
      intro hk
      rw [bestOf_step (by omega), List.take_succ_eq_append_getElem (by omega)]
      exact (ih (by omega)).step (List.getElem_mem _)
  have := key of.length (Nat.le_refl _)
  rwa [List.take_length] at this
def lastAt (rs : List Rng) : Nat → Nat
  | 0 => 0
  | k + 1 => (rs[k]?.getD (0, 0)).2
theorem lastAt_succ {rs : List Rng} {k : Nat} (h : k < rs.length) : lastAt rs (k + 1) = rs[k].2 := by
  show (rs[k]?.getD (0, 0)).2 = _
  rw [List.getElem?_eq_getElem h]; rfl
theorem NInv.far {ts : List Nat} {rs : List Rng} (h : NInv ts rs) {i j : Nat} (hi : i < rs.length) (hj : j < rs.length) (hij : i < j) : rs[i].2 + 2 ≤ rs[j].1 := List.pairwise_iff_getElem.1 h.gap i j hi hj hij
theorem NInv.start {of ts : List Nat} {rs : List Rng} (h : NInv ts rs) (ht : ∀ x, x ∈ ts ↔ 0 < x ∧ x ∈ of) {i : Nat} (hi : i < rs.length) : Start of rs[i].1 := by
  have h1 := h.one _ (List.getElem_mem hi)
  refine ⟨((ht _).1 ((h.mem _).1 ⟨_, List.getElem_mem hi, Nat.le_refl _, h1.2⟩)).2, h1.1, ?_⟩
  by_cases e : rs[i].1 = 1
  · exact .inl e
  · refine .inr fun hm => ?_
    obtain ⟨r, hr, h2, h3⟩ := (h.mem (rs[i].1 - 1)).2 ((ht _).2 ⟨by omega, hm⟩)
    obtain ⟨j, hj, rfl⟩ := List.mem_iff_getElem.1 hr
    rcases Nat.lt_trichotomy j i with g | g | g
    · have := h.far hj hi g; omega
    · subst g; omega
    · have := h.far hi hj g; omega
theorem NInv.start_of {of ts : List Nat} {rs : List Rng} (h : NInv ts rs) (ht : ∀ x, x ∈ ts ↔ 0 < x ∧ x ∈ of) {x : Nat} (hx : Start of x) : ∃ (j : Nat) (hj : j < rs.length), rs[j].1 = x := by
  obtain ⟨r, hr, h2, h3⟩ := (h.mem x).2 ((ht _).2 ⟨hx.2.1, hx.1⟩)
  have h1 := h.one r hr
  obtain ⟨j, hj, e⟩ := List.mem_iff_getElem.1 hr
  refine ⟨j, hj, ?_⟩
  rw [e]
  rcases Nat.lt_or_ge r.1 x with g | g
  · have := ((ht _).1 ((h.mem (x - 1)).1 ⟨r, hr, by omega, by omega⟩)).2
    rcases hx.2.2 with g2 | g2
    · omega
    · exact absurd this g2
  · omega
theorem NInv.later {ts : List Nat} {rs : List Rng} (h : NInv ts rs) {j k : Nat} (hj : j < rs.length) (hk : k ≤ rs.length) : lastAt rs k < rs[j].1 ↔ k ≤ j := by
  have hj1 := h.one _ (List.getElem_mem hj)
  cases k with
  | zero => exact ⟨fun _ => Nat.zero_le _, fun _ => by show 0 < _; omega⟩
  | succ m =>
    rw [lastAt_succ (by omega)]
    have hm1 := h.one _ (List.getElem_mem (show m < rs.length by omega))
    rcases Nat.lt_trichotomy j m with g | g | g
    · have := h.far hj (by omega) g
      exact ⟨fun _ => by omega, fun _ => by omega⟩
    · subst g; exact ⟨fun _ => by omega, fun _ => by omega⟩
    · have := h.far (show m < rs.length by omega) hj g
      exact ⟨fun _ => by omega, fun _ => by omega⟩
theorem NInv.best {of ts : List Nat} {rs : List Rng} (h : NInv ts rs) (ht : ∀ x, x ∈ ts ↔ 0 < x ∧ x ∈ of) {k : Nat} (hk : k < rs.length) : bestOf of (lastAt rs k) of.length = rs[k].1 := by
  have hb := BI.all of (lastAt rs k)
  generalize bestOf of (lastAt rs k) of.length = best at hb
  have h1 := h.start ht hk
  have h2 := hb.least _ h1.1 h1 ((h.later hk (by omega)).2 (Nat.le_refl _))
  rcases hb.good with h3 | ⟨h3, h4⟩
  · exact absurd h3 h2.1
  · obtain ⟨j, hj, rfl⟩ := h.start_of ht h3
    have h5 := (h.later hj (by omega)).1 h4
    rcases Nat.lt_or_ge k j with g | g
    · have := h.far hk hj g
      have := h.one _ (List.getElem_mem hk)
      omega
    · obtain rfl : j = k := by omega
      rfl
theorem NInv.best0 {of ts : List Nat} {rs : List Rng} (h : NInv ts rs) (ht : ∀ x, x ∈ ts ↔ 0 < x ∧ x ∈ of) : bestOf of (lastAt rs rs.length) of.length = 0 := by
  have hb := BI.all of (lastAt rs rs.length)
  generalize bestOf of (lastAt rs rs.length) of.length = best at hb
  rcases hb.good with h3 | ⟨h3, h4⟩
  · exact h3
  · obtain ⟨j, hj, rfl⟩ := h.start_of ht h3
    have h5 := (h.later hj (Nat.le_refl _)).1 h4
    omega
theorem NInv.ext {of ts : List Nat} {rs : List Rng} (h : NInv ts rs) (ht : ∀ x, x ∈ ts ↔ 0 < x ∧ x ∈ of) {k : Nat} (hk : k < rs.length) {c : Nat} (h1 : rs[k].1 ≤ c) (h2 : c ≤ rs[k].2) : decide (c + 1 ∈ of) = decide (c < rs[k].2) := by
  congr 1
  refine propext ⟨fun hm => ?_, fun hl => ((ht _).1 ((h.mem (c + 1)).1 ⟨_, List.getElem_mem hk, by omega, hl⟩)).2⟩
  obtain ⟨r, hr, h3, h4⟩ := (h.mem (c + 1)).2 ((ht _).2 ⟨by omega, hm⟩)
  obtain ⟨j, hj, rfl⟩ := List.mem_iff_getElem.1 hr
  rcases Nat.lt_trichotomy j k with g | g | g
  · have := h.far hj hk g; omega
  · subst g; omega
  · have := h.far hk hj g; omega
set_option maxRecDepth 100000 in
set_option maxHeartbeats 4000000 in
theorem in_any (of : List Nat) (v : Value) (x : Nat) (xi : Int) (hxi : xi = x) (w : World) (hr : Rd w v of.length (of.map encU)) (hol : of.length ≤ 1000000) :
    Calls Try.prog 49 #[v, .int .u64 xi] w fun e w' => e = .returned (.bool (decide (x ∈ of))) ∧ w' = w := by
  subst hxi
  have hr0 := Lib.hid hr
  obtain ⟨ao, cap, rfl, -⟩ := hr
  go_enter Try.func49, Try.ntmps49
  go_wp2_with fail
  go_loopw [5] (fun v5 wr => ∃ k : Nat, v5 = .int .i64 k ∧ k ≤ of.length ∧ Hid (x ∉ of.take k) ∧ wr = w) (fun v5 _ => of.length - (intOf v5).toNat)
  case atStart => exact ⟨0, rfl, Nat.zero_le _, Lib.hid (by simp), rfl⟩
  case round =>
    obtain ⟨k, rfl, hk, hno, rfl⟩ := hrel
    by_cases hlt : k < of.length
    · have hl1 : (k : Int) < (of.length : Int) := by omega
      obtain ⟨b, o, c', hv, hbl, ca⟩ := rd_at hr0.out hlt
      injection hv with q1 q2 q3
      subst q1 q3
      have hst : x ≠ of[k] → x ∉ of.take (k + 1) := fun h => by
        rw [List.take_succ_eq_append_getElem hlt, List.mem_append, List.mem_singleton]
        exact fun g => g.elim hno.out h
      have hyes : x = of[k] → decide (x ∈ of) = true := fun h => by rw [h]; exact decide_eq_true (List.getElem_mem hlt)
      generalize of[k] = y at ca hst hyes
      by_cases hxy : x = y
      · have e1 : ((y : Int) == (x : Int)) = true := by rw [hxy]; simp
        have hy := Lib.hid (hyes hxy)
        clear hst hyes hxy
        go_wp2_with fail
        go_ret
        exact ⟨by rw [hy.out]; rfl, rfl⟩
      · have e1 : ((y : Int) == (x : Int)) = false := by rw [beq_eq_false_iff_ne]; omega
        have hy := Lib.hid (hst hxy)
        clear hst hyes hxy
        go_wp2_with fail
        go_roundw
        case rel => exact ⟨k + 1, by go_num, by omega, hy, by trivial⟩
        case measure => simp [intOf] <;> omega
    · obtain rfl : k = of.length := by omega
      have hy : Hid (decide (x ∈ of) = false) := Lib.hid (decide_eq_false (by have := hno.out; rwa [List.take_length] at this))
      go_wp2_with fail
      go_ret
      exact ⟨by rw [hy.out]; rfl, rfl⟩
end Go.Proofs.Ytcnebfmlelcliaa
namespace Go.Proofs.Ytcnebfmlelcliaa
open Go.RowKit

set_option maxRecDepth 100000 in
set_option maxHeartbeats 8000000 in
theorem refNorm_any (of ts : List Nat) (rs : List Rng) (v : Value) (w : World) (hr : Rd w v of.length (of.map encU)) (hol : of.length ≤ 1000000) (hts : ∀ x, x ∈ ts ↔ 0 < x ∧ x ∈ of) (hu : ∀ x ∈ of, x < 18446744073709551616) (hin : NInv ts rs) (hrl : rs.length ≤ 1000000) :
    Calls Try.prog 35 #[v] w fun e w' => ∃ v', e = .returned v' ∧ Hid (OwnR w' w.heap.size v' rs) ∧ Hid (Below w.heap.size w w') := by
  have hr0 := Lib.hid hr
  obtain ⟨ao, cap, rfl, -⟩ := hr
  have hbest := Lib.hid (fun k hk => hin.best hts (k := k) hk)
  have hbest0 := Lib.hid (hin.best0 hts)
  have hext := Lib.hid (fun k hk c => hin.ext hts (k := k) hk (c := c))
  have hone := Lib.hid (fun k (hk : k < rs.length) => hin.one _ (List.getElem_mem hk))
  have htop := Lib.hid (fun k (hk : k < rs.length) => hin.top (fun t ht => hu t ((hts t).1 ht).2) hk)
  replace hu := Lib.hid hu
  clear hin hts
  go_enter Try.func35, Try.ntmps35
  go_wp2_with fail
  go_loopw [3, 4] (fun v3 v4 wr => ∃ k : Nat, k ≤ rs.length ∧ v4 = .int .u64 (lastAt rs k : Nat) ∧ Hid (OwnR wr w.heap.size v3 (rs.take k)) ∧ Hid (Below w.heap.size w wr)) (fun v3 _ _ => rs.length - lenV v3)
  case atStart => exact ⟨0, Nat.zero_le _, rfl, Lib.hid (OwnR.nil _ _), Lib.hid (Below.refl _ _)⟩
  case round =>
    obtain ⟨k, hk, rfl, hown, hbw⟩ := hrel
    have hrdw := Lib.hid (hr0.out.below hbw.out)
    have hbk : Hid (∀ (h : k < rs.length), bestOf of (lastAt rs k) of.length = rs[k].1) := Lib.hid (fun h => hbest.out k h)
    have hbk0 : Hid (k = rs.length → bestOf of (lastAt rs k) of.length = 0) := Lib.hid (fun h => by rw [h]; exact hbest0.out)
    generalize lastAt rs k = last at hbk hbk0 ⊢
    go_wp2_with fail
    go_loopw [5, 6] (fun v5 v6 wr2 => ∃ i : Nat, v6 = .int .i64 i ∧ i ≤ of.length ∧ v5 = .int .u64 (bestOf of last i : Nat) ∧ wr2 = wr) (fun _ v6 _ => of.length - (intOf v6).toNat)
    case atStart => exact ⟨0, rfl, Nat.zero_le _, rfl, rfl⟩
    case round =>
      obtain ⟨i, rfl, hi, rfl, rfl⟩ := hrel
      by_cases hlt : i < of.length
      · have hl1 : (i : Int) < (of.length : Int) := by omega
        have hst := Lib.hid (bestOf_step (last := last) hlt)
        obtain ⟨b, o, c', hv, hbl, ca⟩ := rd_at hrdw.out hlt
        injection hv with q1 q2 q3
        subst q1 q3
        have hyu : of[i] < 18446744073709551616 := hu.out _ (List.getElem_mem hlt)
        generalize of[i] = y at ca hst hyu
        generalize bestOf of last i = best at hst ⊢
        by_cases hA : last < y
        · obtain ⟨z, hz⟩ : ∃ z, y - 1 = z := ⟨_, rfl⟩
          have hw : IntKind.u64.wrap ((y : Int) - 1) = (z : Int) := by rw [IntKind.wrap_u64]; omega
          have d1 : decide ((last : Int) < (y : Int)) = true := decide_eq_true (by omega)
          have d1n : decide (last < y) = true := decide_eq_true hA
          have hcall := in_any of _ z _ rfl _ hrdw.out (by omega)
          obtain ⟨I, hI⟩ : ∃ I, decide (z ∈ of) = I := ⟨_, rfl⟩
          rw [hI] at hcall
          replace hcall := Lib.hid hcall
          cases I
          · have hzn : z ∉ of := by simpa using hI
            rcases Nat.eq_zero_or_pos best with hb0 | hb0
            · subst hb0
              by_cases h1 : y = 1
              · have e1 : ((y : Int) == 1) = true := by rw [beq_iff_eq]; omega
                have e2 : ((last : Int) == 0) = true := by rw [beq_iff_eq]; omega
                have hv := Lib.hid (hst.out.trans (bs_one ⟨h1, by omega⟩))
                clear hst hA h1 hyu hz hI hzn
                go_wp2_with fail
                refine hcall.out.mono ?_
                rintro e w5 ⟨rfl, rfl⟩
                go_wp2_with fail
                go_roundw
                case rel => exact ⟨i + 1, by go_num, by omega, by rw [hv.out]; rfl, by trivial⟩
                case measure => simp [intOf] <;> omega
              · have e1 : ((y : Int) == 1) = false := by rw [beq_eq_false_iff_ne]; omega
                have hv := Lib.hid (hst.out.trans (bs_set (fun h => h1 h.1) ⟨hA, by rw [hz]; exact hzn, .inl rfl⟩))
                clear hst hA h1 hyu hz hI hzn
                go_wp2_with fail
                refine hcall.out.mono ?_
                rintro e w5 ⟨rfl, rfl⟩
                go_wp2_with fail
                go_roundw
                case rel => exact ⟨i + 1, by go_num, by omega, by rw [hv.out], by trivial⟩
                case measure => simp [intOf] <;> omega
            · have e0 : ((best : Int) == 0) = false := by rw [beq_eq_false_iff_ne]; omega
              by_cases hyb : y < best
              · have d2 : decide ((y : Int) < (best : Int)) = true := decide_eq_true (by omega)
                have d2n : decide (y < best) = true := decide_eq_true hyb
                by_cases h1 : y = 1
                · have e1 : ((y : Int) == 1) = true := by rw [beq_iff_eq]; omega
                  have e2 : ((last : Int) == 0) = true := by rw [beq_iff_eq]; omega
                  have hv := Lib.hid (hst.out.trans (bs_one ⟨h1, by omega⟩))
                  clear hst hA h1 hyu hz hI hzn hb0 hyb
                  go_wp2_with fail
                  refine hcall.out.mono ?_
                  rintro e w5 ⟨rfl, rfl⟩
                  go_wp2_with fail
                  go_roundw
                  case rel => exact ⟨i + 1, by go_num, by omega, by rw [hv.out]; rfl, by trivial⟩
                  case measure => simp [intOf] <;> omega
                · have e1 : ((y : Int) == 1) = false := by rw [beq_eq_false_iff_ne]; omega
                  have hv := Lib.hid (hst.out.trans (bs_set (fun h => h1 h.1) ⟨hA, by rw [hz]; exact hzn, .inr hyb⟩))
                  clear hst hA h1 hyu hz hI hzn hb0 hyb
                  go_wp2_with fail
                  refine hcall.out.mono ?_
                  rintro e w5 ⟨rfl, rfl⟩
                  go_wp2_with fail
                  go_roundw
                  case rel => exact ⟨i + 1, by go_num, by omega, by rw [hv.out], by trivial⟩
                  case measure => simp [intOf] <;> omega
              · have d2 : decide ((y : Int) < (best : Int)) = false := decide_eq_false (by omega)
                have d2n : decide (y < best) = false := decide_eq_false hyb
                by_cases h1 : y = 1
                · have e1 : ((y : Int) == 1) = true := by rw [beq_iff_eq]; omega
                  have e2 : ((last : Int) == 0) = true := by rw [beq_iff_eq]; omega
                  have hv := Lib.hid (hst.out.trans (bs_one ⟨h1, by omega⟩))
                  clear hst hA h1 hyu hz hI hzn hb0 hyb
                  go_wp2_with fail
                  refine hcall.out.mono ?_
                  rintro e w5 ⟨rfl, rfl⟩
                  go_wp2_with fail
                  go_roundw
                  case rel => exact ⟨i + 1, by go_num, by omega, by rw [hv.out]; rfl, by trivial⟩
                  case measure => simp [intOf] <;> omega
                · have e1 : ((y : Int) == 1) = false := by rw [beq_eq_false_iff_ne]; omega
                  have hv := Lib.hid (hst.out.trans (bs_keep (fun h => h1 h.1) (fun h => by omega)))
                  clear hst hA h1 hyu hz hI hzn hb0 hyb
                  go_wp2_with fail
                  refine hcall.out.mono ?_
                  rintro e w5 ⟨rfl, rfl⟩
                  go_wp2_with fail
                  go_roundw
                  case rel => exact ⟨i + 1, by go_num, by omega, by rw [hv.out], by trivial⟩
                  case measure => simp [intOf] <;> omega
          · have hzy : z ∈ of := by simpa using hI
            by_cases h1 : y = 1
            · have e1 : ((y : Int) == 1) = true := by rw [beq_iff_eq]; omega
              have e2 : ((last : Int) == 0) = true := by rw [beq_iff_eq]; omega
              have hv := Lib.hid (hst.out.trans (bs_one ⟨h1, by omega⟩))
              clear hst hA h1 hyu hz hI hzy
              go_wp2_with fail
              refine hcall.out.mono ?_
              rintro e w5 ⟨rfl, rfl⟩
              go_wp2_with fail
              go_roundw
              case rel => exact ⟨i + 1, by go_num, by omega, by rw [hv.out]; rfl, by trivial⟩
              case measure => simp [intOf] <;> omega
            · have e1 : ((y : Int) == 1) = false := by rw [beq_eq_false_iff_ne]; omega
              have hv := Lib.hid (hst.out.trans (bs_keep (fun h => h1 h.1) (fun h => h.2.1 (by rw [hz]; exact hzy))))
              clear hst hA h1 hyu hz hI hzy
              go_wp2_with fail
              refine hcall.out.mono ?_
              rintro e w5 ⟨rfl, rfl⟩
              go_wp2_with fail
              go_roundw
              case rel => exact ⟨i + 1, by go_num, by omega, by rw [hv.out], by trivial⟩
              case measure => simp [intOf] <;> omega
        · have d1 : decide ((last : Int) < (y : Int)) = false := decide_eq_false (by omega)
          have d1n : decide (last < y) = false := decide_eq_false hA
          by_cases h1 : y = 1
          · have e1 : ((y : Int) == 1) = true := by rw [beq_iff_eq]; omega
            have e2 : ((last : Int) == 0) = false := by rw [beq_eq_false_iff_ne]; omega
            have hv := Lib.hid (hst.out.trans (bs_keep (by omega) (fun h => hA h.1)))
            clear hst hA h1 hyu
            go_wp2_with fail
            go_roundw
            case rel => exact ⟨i + 1, by go_num, by omega, by rw [hv.out], by trivial⟩
            case measure => simp [intOf] <;> omega
          · have e1 : ((y : Int) == 1) = false := by rw [beq_eq_false_iff_ne]; omega
            have hv := Lib.hid (hst.out.trans (bs_keep (by omega) (fun h => hA h.1)))
            clear hst hA h1 hyu
            go_wp2_with fail
            go_roundw
            case rel => exact ⟨i + 1, by go_num, by omega, by rw [hv.out], by trivial⟩
            case measure => simp [intOf] <;> omega
      · obtain rfl : i = of.length := by omega
        by_cases hkl : k < rs.length
        · rw [hbk.out hkl]
          have h1 := hone.out k hkl
          have ht := (htop.out k hkl).2
          have hex := Lib.hid (fun c => hext.out k hkl c)
          have htk : Hid (rs.take (k + 1) = rs.take k ++ [rs[k]]) := Lib.hid (List.take_succ_eq_append_getElem hkl)
          have hls : Hid (lastAt rs (k + 1) = rs[k].2) := Lib.hid (lastAt_succ hkl)
          clear hbk hbk0
          generalize rs[k] = r at h1 ht hex htk hls ⊢
          obtain ⟨f, t⟩ := r
          dsimp only at h1 ht ⊢
          have h2 := Lib.hid h1
          clear h1
          have e0 : ((f : Int) == 0) = false := by have := h2.out; rw [beq_eq_false_iff_ne]; omega
          have hol2 : (rs.take k).length = k := by rw [List.length_take]; omega
          replace hol2 := Lib.hid hol2
          obtain ⟨outl, hou⟩ : ∃ l, rs.take k = l := ⟨_, rfl⟩
          rw [hou] at hown htk hol2
          clear hou
          have hol3 : outl.length ≤ 1000000 := by have := hol2.out; omega
          have hsz := hbw.out.size
          go_wp2_with fail
          go_loopw [4] (fun v4 wr2 => ∃ c : Nat, v4 = .int .u64 c ∧ f ≤ c ∧ c ≤ t ∧ wr2 = wr) (fun v4 _ => t - (intOf v4).toNat)
          case atStart => exact ⟨f, rfl, Nat.le_refl _, h2.out.2, rfl⟩
          case round =>
            obtain ⟨c, rfl, hc1, hc2, rfl⟩ := hrel
            have hx := hex.out c hc1 hc2
            have hcall := in_any of _ (c + 1) ((c : Int) + 1) (by omega) _ hrdw.out (by omega)
            rw [hx] at hcall
            try dsimp only at hcall
            by_cases hct : c < t
            · rw [decide_eq_true hct] at hcall
              replace hcall := Lib.hid hcall
              have d1 : decide ((c : Int) < 18446744073709551615) = true := decide_eq_true (by omega)
              have hw : IntKind.u64.wrap ((c : Int) + 1) = (c : Int) + 1 := by rw [IntKind.wrap_u64]; omega
              have hc3 := Lib.hid (And.intro hc1 hct)
              clear hc1 hc2 hx hct ht
              go_wp2_with fail
              refine hcall.out.mono ?_
              rintro e w5 ⟨rfl, rfl⟩
              go_wp2_with fail
              go_roundw
              case rel => exact ⟨c + 1, by go_num, by have := hc3.out; omega, by have := hc3.out; omega, by trivial⟩
              case measure => have := hc3.out; simp [intOf] <;> omega
            · rw [decide_eq_false hct] at hcall
              obtain rfl : c = t := by omega
              replace hcall := Lib.hid hcall
              by_cases hcm : c < 18446744073709551615
              · have d1 : decide ((c : Int) < 18446744073709551615) = true := decide_eq_true (by omega)
                have hw : IntKind.u64.wrap ((c : Int) + 1) = (c : Int) + 1 := by rw [IntKind.wrap_u64]; omega
                clear hc1 hc2 hx hct ht hcm
                go_wp2_with fail
                refine hcall.out.mono ?_
                rintro e w5 ⟨rfl, hw5⟩
                obtain rfl : wr = w5 := hw5.symm
                clear hcall hw5
                go_wp2_with (at_builtin; refine wpList_append_range (W := wr) rfl _ _ rfl w.heap.size u3 outl f c rfl rfl hown.out (by omega) hsz ?_)
                intro v3 w4 ho4 hb4
                have hB4 := Lib.hid (hbw.out.trans hb4)
                have ho5 : Hid (OwnR w4 w.heap.size v3 (rs.take (k + 1))) := Lib.hid (by rw [htk.out]; exact ho4)
                obtain ⟨aa, ca, hva⟩ := ho4.len
                have hm : Hid (lenV v3 = outl.length + 1 ∧ lenV u3 = outl.length) := Lib.hid ⟨by rw [hva, List.length_append]; rfl, by obtain ⟨a1, c1, h1⟩ := hown.out.len; rw [h1]; rfl⟩
                clear hva ho4 hb4
                go_wp2_with fail
                go_roundw
                case rel => exact ⟨k + 1, hkl, by rw [hls.out], ho5, hB4⟩
                case measure =>
                  have h9 := hm.out
                  have h8 := hol2.out
                  omega
              · have d1 : decide ((c : Int) < 18446744073709551615) = false := decide_eq_false (by omega)
                clear hc1 hc2 hx hct ht hcm
                go_wp2_with (at_builtin; refine wpList_append_range (W := wr) rfl _ _ rfl w.heap.size u3 outl f c rfl rfl hown.out (by omega) hsz ?_)
                intro v3 w4 ho4 hb4
                have hB4 := Lib.hid (hbw.out.trans hb4)
                have ho5 : Hid (OwnR w4 w.heap.size v3 (rs.take (k + 1))) := Lib.hid (by rw [htk.out]; exact ho4)
                obtain ⟨aa, ca, hva⟩ := ho4.len
                have hm : Hid (lenV v3 = outl.length + 1 ∧ lenV u3 = outl.length) := Lib.hid ⟨by rw [hva, List.length_append]; rfl, by obtain ⟨a1, c1, h1⟩ := hown.out.len; rw [h1]; rfl⟩
                clear hva ho4 hb4
                go_wp2_with fail
                go_roundw
                case rel => exact ⟨k + 1, hkl, by rw [hls.out], ho5, hB4⟩
                case measure =>
                  have h9 := hm.out
                  have h8 := hol2.out
                  omega
        · obtain rfl : k = rs.length := by omega
          rw [hbk0.out rfl]
          rw [List.take_length] at hown
          clear hbk hbk0
          go_wp2_with fail
          go_ret
          exact ⟨_, rfl, hown, hbw⟩
end Go.Proofs.Ytcnebfmlelcliaa
