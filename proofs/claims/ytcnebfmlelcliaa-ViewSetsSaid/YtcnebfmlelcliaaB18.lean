/- slices.Sort on 12 numbers or fewer: walked. slices.Sort at uint64: walked, at whatever length. Norm: walked, over what slices.Sort does. What the ranges of rising numbers are: plain. SeqsetFew: walked. The reference's Norm: walked. nothing of its own Set of views, of the program and of the document: walked. ViewSets as a plain law: the set of what is meant means it again. -/
import Derived.Test.YtcnebfmlelcliaaB13
import Derived.Test.YtcnebfmlelcliaaShelfS
import Derived.Test.YtcnebfmlelcliaaB17
import Derived.Test.YtcnebfmlelcliaaB12
import Derived.Maps.Views
import Derived.Test.YtcnebfmlelcliaaB03
import Derived.Test.YtcnebfmlelcliaaB11
namespace Go.Proofs.Ytcnebfmlelcliaa
open Go.RowKit

/-- a row of the call's own of few numbers, as a row that is written in place -/
theorem OwnN.row {W : World} {B : Nat} {v : Value} {ss : List Nat} (h : OwnN W B v ss) : (v = .slice none 0 0 ∧ ss = []) ∨ ∃ g rest cap, v = .slice (some ⟨g, 0, none⟩) ss.length cap ∧ B ≤ g ∧ (∀ W' (ts : List Nat), ts.length = ss.length → Row W' g ts rest → OwnN W' B (.slice (some ⟨g, 0, none⟩) ss.length cap) ts) ∧ Row W g ss rest := by
  rcases h.2 with ⟨rfl, hn⟩ | ⟨g, cap, cur, rfl, hb, hg, hc, hm, hs, ht⟩
  · exact .inl ⟨rfl, List.eq_nil_of_length_eq_zero hn⟩
  · refine .inr ⟨g, cur.toList.drop (ss.length * 1), cap, rfl, hb, ?_, ?_⟩
    · intro W' ts hl hr
      unfold Row at hr
      refine ⟨by simp, .inr ⟨g, cap, _, by rw [hl], hb, hr, by omega, hm, ?_, ?_⟩⟩
      · simp
        omega
      · simp
    · unfold Row
      rw [← ht, List.take_append_drop]
      exact hg
set_option maxRecDepth 100000 in
set_option maxHeartbeats 4000000 in
theorem insertion_nil (W0 : World) : Calls Try.prog 72 #[.slice none 0 0, .int .i64 0, .int .i64 0] W0 fun e W' => e = .returned (.tuple #[]) ∧ W' = W0 := by
  go_enter Try.func72, Try.ntmps72
  go_wp2_with fail
  go_loopw [6] (fun v6 wr => v6 = .int .i64 1 ∧ wr = W0) (fun _ _ => 0)
  case atStart => exact ⟨rfl, rfl⟩
  case round =>
    obtain ⟨rfl, rfl⟩ := hrel
    go_wp2_with fail
    go_end0
    exact ⟨rfl, rfl⟩
set_option maxRecDepth 100000 in
set_option maxHeartbeats 4000000 in
theorem pdq_nil (k : Int) (W0 : World) :
    Calls Try.prog 66 #[.slice none 0 0, .int .i64 0, .int .i64 0, .int .i64 k] W0 fun e W' => e = .returned (.tuple #[]) ∧ W' = W0 := by
  have hi := Lib.hid insertion_nil
  go_enter Try.func66, Try.ntmps66
  go_wp2_with fail
  go_loopw [1, 2] (fun v1 v2 wr => v1 = .int .i64 0 ∧ v2 = .int .i64 0 ∧ wr = W0) (fun _ _ _ => 0)
  case atStart => exact ⟨rfl, rfl, rfl⟩
  case round =>
    obtain ⟨rfl, rfl, rfl⟩ := hrel
    go_wp2_with fail
    refine (hi.out _).mono ?_
    rintro e w1 ⟨rfl, rfl⟩
    go_wp2_with fail
    (try simp only [Exit.inBlock, Exit.then])
    refine bodyPost_ret (results_none rfl _ _ _) rfl ?_
    exact ⟨rfl, rfl⟩
theorem Kept1.below {W W' : World} {g B : Nat} (h : Kept1 W g W') (hb : B ≤ g) (hs : B ≤ W.heap.size) : Below B W W' where
  os := h.1
  tape := h.2.1
  output := h.2.2.1
  size := h.2.2.2.1
  block := fun k hk => h.2.2.2.2 k (by omega) (by omega)
theorem SortedOn.pairwise {l : List Nat} (h : SortedOn l 0 l.length) : l.Pairwise (· ≤ ·) := by
  rw [List.pairwise_iff_getElem]
  intro i j hi hj hij
  have := h i j (Nat.zero_le _) hij hj
  rwa [at_lt hi, at_lt hj] at this
end Go.Proofs.Ytcnebfmlelcliaa
namespace Go.Proofs.Ytcnebfmlelcliaa
open Go.RowKit

theorem bitLen_small {n : Nat} (h : n ≤ 1048576) : Lib.bitLen n ≤ 1000 := Nat.le_trans (Lib.bitLen_le n 62 (by omega) (by omega)) (by omega)
set_option maxRecDepth 100000 in
set_option maxHeartbeats 4000000 in
theorem sort_all : SortOk 1000000 := by
  intro W B v ss hlen hB hown
  rcases hown.row with ⟨rfl, rfl⟩ | ⟨g, rest, cap, rfl, hg, hback, hrow⟩
  · have hp := Lib.hid pdq_nil
    replace hown := Lib.hid hown
    have hl := Lib.hid (fun (w : World) => Try.bits_Len 0 w (by omega) (by omega))
    go_enter Try.func57, Try.ntmps57
    go_wp2_with fail
    refine (hl.out _).mono ?_
    rintro e w1 ⟨rfl, rfl⟩
    go_wp2_with fail
    refine (hp.out _ _).mono ?_
    rintro e w1 ⟨rfl, rfl⟩
    go_wp2_with fail
    go_end0
    exact ⟨rfl, [], hown, Lib.hid ⟨List.Perm.refl _, List.Pairwise.nil⟩, Lib.hid (Below.refl B _)⟩
  · have hbl := bitLen_small (n := ss.length) (by omega)
    obtain ⟨lim, hlim⟩ : ∃ lim, Lib.bitLen ss.length = lim := ⟨_, rfl⟩
    rw [hlim] at hbl
    have hp := Lib.hid (pdq_all (ss.length - 0) g cap ss rest 0 ss.length lim W rfl (Nat.zero_le _) (Nat.le_refl _) (by omega) (fun q h0 _ _ => by omega) hbl hrow)
    replace hback := Lib.hid hback
    have hl := Lib.hid (fun (w : World) => Try.bits_Len (ss.length : Int) w (by omega) (by omega))
    rw [Int.toNat_natCast, hlim] at hl
    clear hrow hown hlim hbl
    go_enter Try.func57, Try.ntmps57
    go_wp2_with fail
    refine (hl.out _).mono ?_
    rintro e w1 ⟨rfl, rfl⟩
    go_wp2_with fail
    refine hp.out.mono ?_
    rintro e w1 ⟨rfl, l', h1, h2, h3⟩
    have g1 := Lib.hid (hback.out w1 l' h2.out.1.len h1.out)
    have g2 := Lib.hid (And.intro h2.out.1.1 (SortedOn.pairwise (by rw [h2.out.1.len]; exact h2.out.2)))
    have g3 := Lib.hid (h3.out.below hg hB)
    go_wp2_with fail
    go_end0
    exact ⟨rfl, l', g1, g2, g3⟩
end Go.Proofs.Ytcnebfmlelcliaa
namespace Go.Proofs.Ytcnebfmlelcliaa
open Go.RowKit Go.Maps

/-- one number more, greater than all before -/
def normStep (out : List Rng) (n : Nat) : List Rng := match out.getLast? with
  | some r => if r.2 + 1 = n then out.dropLast ++ [(r.1, n)] else out ++ [(n, n)]
  | none => [(n, n)]
def normF (ts : List Nat) : List Rng := ts.foldl normStep []
theorem normStep_on (i : List Rng) (a b n : Nat) (h : b + 1 = n) : normStep (i ++ [(a, b)]) n = i ++ [(a, n)] := by
  unfold normStep
  rw [List.getLast?_append]
  simp [h]
theorem normStep_new (i : List Rng) (a b n : Nat) (h : b + 1 ≠ n) : normStep (i ++ [(a, b)]) n = i ++ [(a, b)] ++ [(n, n)] := by
  unfold normStep
  rw [List.getLast?_append]
  simp [h]
theorem normStep_len (out : List Rng) (n : Nat) : (normStep out n).length ≤ out.length + 1 := by
  unfold normStep
  split
  · split
    · simp
    · simp
  · simp
theorem normF_snoc (ts : List Nat) (n : Nat) : normF (ts ++ [n]) = normStep (normF ts) n := by rw [normF, List.foldl_append]; rfl
theorem normF_len : ∀ (ts : List Nat) (out : List Rng), (ts.foldl normStep out).length ≤ out.length + ts.length
  | [], out => Nat.le_refl _
  | n :: r, out => by
    have := normF_len r (normStep out n)
    have := normStep_len out n
    rw [List.foldl_cons, List.length_cons]; omega
/-- the numbers of a list that are not nought, each once, rising -/
def Rising (of ts : List Nat) : Prop := (ts.Nodup ∧ ts.Pairwise (· ≤ ·)) ∧ ∀ x : Nat, x ∈ ts ↔ 0 < x ∧ x ∈ of
def NormRet (of : List Nat) (w : World) (e : Ending) (w' : World) : Prop := ∃ (v : Value) (ts : List Nat), e = .returned v ∧ Hid (Rising of ts) ∧ Hid (OwnR w' w.heap.size v (normF ts)) ∧ Hid (Below w.heap.size w w')
theorem OwnR.at_last {w : World} {B g cap : Nat} {i : List Rng} {a b : Nat} (h : OwnR w B (.slice (some ⟨g, 0, none⟩) (i.length + 1) cap) (i ++ [(a, b)])) :
    w.cell? ⟨g, i.length * 2 + 1, none⟩ = some (.int .u64 b) ∧ w.frozen? ⟨g, i.length * 2 + 1, none⟩ = false ∧ B ≤ g ∧ ∀ c : Nat, OwnR (w.setCell ⟨g, i.length * 2 + 1, none⟩ (.int .u64 c)) B (.slice (some ⟨g, 0, none⟩) (i.length + 1) cap) (i ++ [(a, c)]) := by
  rcases h.2 with ⟨hv, _⟩ | ⟨g', cap', cur, hv, hB, hg, hle, hm, hs, htk⟩
  · cases hv
  · have hl : (i ++ [(a, b)]).length = i.length + 1 := by simp
    rw [hl] at hle htk hv
    cases hv
    have hri := rangesCells_len i
    have e1 : rangesCells (i ++ [(a, b)]) = rangesCells i ++ [.int .u64 a, .int .u64 b] := rangesCells_app i [(a, b)]
    have hlt : i.length * 2 + 1 < cur.size := by omega
    refine ⟨?_, ?_, hB, fun c => ⟨rangesCells_len _, .inr ⟨g, cap, cur.setIfInBounds (i.length * 2 + 1) (.int .u64 c), by simp, hB, ?_, by simpa using hle, hm, by simpa using hs, ?_⟩⟩⟩
    · have h1 : cur.toList[i.length * 2 + 1]? = (rangesCells (i ++ [(a, b)]))[i.length * 2 + 1]? := by
        rw [← htk, List.getElem?_take_of_lt (by omega)]
      rw [e1, List.getElem?_append_right (by omega), hri] at h1
      simp only [World.cell?, hg]
      rw [← Array.getElem?_toList, h1]
      simp
    · simp [World.frozen?, hg]
    · simp only [World.setCell, Array.getElem?_modify, hg, if_true, Option.map_some]
      rfl
    · have e2 : rangesCells (i ++ [(a, c)]) = rangesCells i ++ [.int .u64 a, .int .u64 c] := rangesCells_app i [(a, c)]
      have hl2 : (i ++ [(a, c)]).length = i.length + 1 := by simp
      rw [hl2, e2, Array.toList_setIfInBounds, List.take_set, htk, e1, List.set_append_right _ _ (by omega), hri]
      simp
theorem own_below {H : Type} {w w' : World} {P : Program} {k : TypeId} {R : Value → Option (DataW H × List MemPlace)} {b n : Nat} {D : DataW H} (h : w.ownsMap P k R b n D) (hb : Below w.heap.size w w') : w'.ownsMap P k R b n D := by
  have hbl := h.lt
  obtain ⟨es, clock, hbk, Ft, hs, hD⟩ := h
  exact ⟨es, clock, (hb.block b hbl).trans hbk, Ft, hs, hD⟩
theorem OwnR.low {w : World} {B B' : Nat} {v : Value} {l : List Rng} (h : OwnR w B v l) (hB : B' ≤ B) : OwnR w B' v l := by
  refine ⟨h.1, ?_⟩
  rcases h.2 with h2 | ⟨g, cap, cur, hv, hb, r⟩
  · exact .inl h2
  · exact .inr ⟨g, cap, cur, hv, Nat.le_trans hB hb, r⟩
set_option maxRecDepth 100000 in
set_option maxHeartbeats 4000000 in
theorem norm_any {N : Nat} (hsort : SortOk N) (of : List Nat) (v : Value) (w : World) (hr : Rd w v of.length (of.map encU)) (hN : of.length ≤ N) (hof : of.length ≤ 1000000) (hu : ∀ x ∈ of, x < 18446744073709551616) :
    Calls Try.prog 34 #[v] w (NormRet of w) := by
  have hr0 := Lib.hid hr
  obtain ⟨ao, cap, rfl, -⟩ := hr
  have hmm := @run_makeMap Try.prog
  replace hu := Lib.hid hu
  replace hsort := Lib.hid hsort
  go_enter Try.func34, Try.ntmps34
  go_wp2_with fail
  go_loopw [13] (fun v13 wr => ∃ (k : Nat) (D : DataW Unit), v13 = .int .i64 k ∧ k ≤ of.length ∧ Hid (wr.ownsMap Try.prog 22 (plainElem Try.prog 3) w.heap.size k D) ∧ Hid (∀ x : Nat, Maps.has D (.int .u64 x) = decide (0 < x ∧ x ∈ of.take k)) ∧ Hid (Below w.heap.size w wr)) (fun v13 _ => of.length - (intOf v13).toNat)
  case atStart =>
    refine ⟨0, _, rfl, Nat.zero_le _, Lib.hid (World.ownsMap_made _ _ _ _), Lib.hid (fun x => ?_), Lib.hid ((Below.refl _ _).alloc (Nat.le_refl _) _)⟩
    simp [Maps.has]
  case round =>
    obtain ⟨k, D, rfl, hk, hown, hhas, hb⟩ := hrel
    have hsz := hb.out.size
    by_cases hlt : k < of.length
    · obtain ⟨b, o, hao, hbl, hcell⟩ := hr0.out.at_pos (by omega)
      subst hao
      have hcw := (hb.out.cell (p := ⟨b, o + k, none⟩) hbl).trans (num_cell hcell hlt)
      have hx64 := hu.out _ (List.getElem_mem hlt)
      have htk : of.take (k + 1) = of.take k ++ [of[k]] := List.take_succ_eq_append_getElem hlt
      generalize of[k] = x at hcw hx64 htk
      clear hcell
      by_cases hx0 : 0 < x
      · have hkey : keyOf Try.prog 22 (.int .u64 (x : Int)) = some (.int .u64 (x : Int)) := keyOf_int_mk Try.underlying22 (by
          have h1 : IntKind.u64.min = 0 := by decide
          have h2 : IntKind.u64.max = 18446744073709551615 := by decide
          simp [Lit.wf, h1, h2]; omega)
        have hhas2 : ∀ d : DataW Unit, Hid (∀ y : Nat, Maps.has (D.put (.int .u64 (x : Int)) d) (.int .u64 y) = decide (0 < y ∧ y ∈ of.take (k + 1))) := fun d => Lib.hid (fun y => by
          by_cases hy : y = x
          · subst hy
            rw [Maps.has_put_same (k := .int .u64 (y : Int)) hown.out.isMap (show WideAt.IsKeyLit (.int .u64 (y : Int)) from trivial), htk, decide_eq_true ⟨hx0, by simp⟩]
          · rw [Maps.has_put_other (fun e => hy (by injection e with _ e2; omega)), hhas.out y, htk]
            simp [hy])
        have hd : decide ((0 : Int) < (x : Int)) = true := by simp; omega
        replace hkey := Lib.hid hkey
        clear htk hhas
        go_wp2_with (first
          | (at_lookup; refine wpList_lookup_own_int _ rfl _ _ 89 rfl 22 3 .i64 (int_keyed Try.underlying22) Try.underlying89 Try.underlying3 (Try.zeroValue3 _) w.heap.size k D rfl hown.out _ _ rfl hkey.out ?_; intro c hat hwc)
          | (at_mapUpdate; refine wpList_mapUpdate_own _ rfl _ _ _ 89 rfl 22 3 (int_keyed Try.underlying22) Try.underlying89 _ w.heap.size k D rfl hown.out (by unfold maxLen; omega) _ _ _ rfl rfl hkey.out _ [] (plainElem_int Try.underlying3 (wrap64_wf _)) ?_; intro w1 hown1 hgrow1))
        have hb1 := Lib.hid (hb.out.grown hgrow1 hsz (fun j e => by cases e; exact Nat.le_refl _))
        replace hown1 := Lib.hid hown1
        clear hgrow1 hown hb hat
        go_wp2_with fail
        go_roundw
        case rel => exact ⟨k + 1, _, by go_num, by omega, hown1, hhas2 _, hb1⟩
        case measure => simp [intOf] <;> omega
      · obtain rfl : x = 0 := by omega
        have hhas2 : Hid (∀ x : Nat, Maps.has D (.int .u64 x) = decide (0 < x ∧ x ∈ of.take (k + 1))) := Lib.hid (fun y => by
          rw [hhas.out y, htk]
          by_cases hy : 0 < y
          · have : ¬ y = 0 := by omega
            simp [hy, this]
          · simp [hy])
        clear hx0 htk hhas
        go_wp2_with fail
        go_roundw
        case rel => exact ⟨k + 1, D, by go_num, by omega, Lib.hid (hown.out.mono (Nat.le_succ _)), hhas2, hb⟩
        case measure => simp [intOf] <;> omega
    · obtain rfl : k = of.length := by omega
      rw [List.take_length] at hhas
      have hsize : Maps.size D ≤ of.length := hown.out.size_le
      obtain ⟨W2, hW2⟩ : ∃ W2, W2 = wr.alloc (.cells #[.map (some w.heap.size)] 89) := ⟨_, rfl⟩
      have hbx : Below wr.heap.size wr W2 := by rw [hW2]; exact (Below.refl _ wr).alloc (Nat.le_refl _) _
      have hbw : Below w.heap.size w W2 := hb.out.trans (hbx.mono hsz)
      have hm2 : W2.cell? ⟨wr.heap.size, 0, none⟩ = some (.map (some w.heap.size)) := by rw [hW2]; exact (Boxed.new wr _ _).cell
      have hz2 : wr.heap.size < W2.heap.size := by rw [hW2]; simp
      have hs := Lib.hid (sorted_any hsort.out wr.heap.size w.heap.size of.length D W2 hz2 hm2 (own_below hown.out hbx) (by omega) (by omega))
      have hki := Lib.hid (keys_in (some w.heap.size) wr)
      replace hbw := Lib.hid hbw
      clear hm2 hown hbx hmm
      go_wp2_with fail
      refine hki.out.mono ?_
      rintro e w1 ⟨rfl, rfl⟩
      rw [← hW2]
      clear hki hW2
      go_wp2_with fail
      refine hs.out.mono ?_
      rintro e w3 ⟨v3, ts, rfl, hks, hown3, hb3⟩
      have hri : Hid (Rising of ts) := Lib.hid ⟨⟨hks.out.1.1.1, hks.out.2⟩, fun x => by rw [hks.out.1.1.2 x, hhas.out x]; simp⟩
      have htl : ts.length ≤ of.length := Nat.le_trans hks.out.1.2 hsize
      have hbw3 := Lib.hid (hbw.out.trans (hb3.out.mono hbw.out.size))
      have hrd3 := Lib.hid hown3.out.rd
      have hpos := Lib.hid (fun x (hx : x ∈ ts) => And.intro ((hri.out.2 x).1 hx).1 (hu.out x ((hri.out.2 x).1 hx).2))
      obtain ⟨ao3, cap3, rfl⟩ := hown3.out.len
      clear hs hown3 hks hhas hb3 hbw hb
      go_wp2_with fail
      go_loopw [6, 28] (fun v6 v28 wq => ∃ q : Nat, v28 = .int .i64 q ∧ q ≤ ts.length ∧ Hid (OwnR wq w3.heap.size v6 (normF (ts.take q))) ∧ Hid (Below w3.heap.size w3 wq)) (fun _ v28 _ => ts.length - (intOf v28).toNat)
      case atStart => exact ⟨0, rfl, Nat.zero_le _, Lib.hid (OwnR.nil _ _), Lib.hid (Below.refl _ _)⟩
      case round =>
        obtain ⟨q, rfl, hq, hown, hb⟩ := hrel
        have hsq := hb.out.size
        by_cases hlt2 : q < ts.length
        · obtain ⟨b3, o3, hao3, hbl3, hcell3⟩ := hrd3.out.at_pos (by omega)
          subst hao3
          have hcw3 := (hb.out.cell (p := ⟨b3, o3 + q, none⟩) hbl3).trans (num_cell hcell3 hlt2)
          have hxp := hpos.out _ (List.getElem_mem hlt2)
          have hst : normF (ts.take (q + 1)) = normStep (normF (ts.take q)) ts[q] := by rw [List.take_succ_eq_append_getElem hlt2, normF_snoc]
          have hol : (normF (ts.take q)).length ≤ q := by
            have := normF_len (ts.take q) []
            rw [List.length_take] at this
            show (List.foldl normStep [] (ts.take q)).length ≤ q
            simp at this; omega
          generalize ts[q] = x at hcw3 hxp hst
          generalize normF (ts.take q) = out at hown hst hol
          have hwr : IntKind.u64.wrap ((x : Int) - 1) = (x : Int) - 1 := by rw [IntKind.wrap_u64]; have := hxp.1; have := hxp.2; omega
          have hx1 : 1 ≤ x := hxp.1
          clear hcell3 hxp
          rcases List.eq_nil_or_concat out with rfl | ⟨i, ⟨a, b⟩, rfl⟩
          · have hst2 : Hid (normF (ts.take (q + 1)) = [] ++ [(x, x)]) := Lib.hid hst
            obtain ⟨a0, c0, rfl⟩ := hown.out.len
            have hown0 : Hid (OwnR wr w3.heap.size (.slice a0 0 c0) []) := hown
            clear hst
            go_wp2_with (at_builtin; refine wpList_append_range (W := wr) rfl _ _ rfl w3.heap.size (.slice a0 0 c0) [] x x rfl rfl hown0.out (by decide) hsq ?_)
            intro v6 w4 ho4 hb4
            have hB4 := Lib.hid (hb.out.trans hb4)
            have ho5 : Hid (OwnR w4 w3.heap.size v6 (normF (ts.take (q + 1)))) := Lib.hid (by rw [hst2.out]; exact ho4)
            clear ho4 hb4 hown hb
            go_wp2_with fail
            go_roundw
            case rel => exact ⟨q + 1, by go_num, by omega, ho5, hB4⟩
            case measure => simp [intOf] <;> omega
          · rw [List.concat_eq_append] at hown hst hol
            obtain ⟨g, cap6, hv6⟩ : ∃ g cap6, u6 = .slice (some ⟨g, 0, none⟩) (i.length + 1) cap6 := by
              rcases hown.out.2 with ⟨_, h0⟩ | ⟨g, cap6, cur, hv, _⟩
              · simp at h0
              · exact ⟨g, cap6, by rw [hv]; simp⟩
            subst hv6
            obtain ⟨cl, fl, hBg, hset⟩ := hown.out.at_last
            have hil : i.length + 1 ≤ 1000000 := by simp at hol; omega
            have hoc := hown.out.len
            by_cases hbx : b + 1 = x
            · have hst2 : Hid (normF (ts.take (q + 1)) = i ++ [(a, x)]) := Lib.hid (by rw [hst, normStep_on _ _ _ _ hbx])
              have hq1 : ((b : Int) == (x : Int) - 1) = true := beq_iff_eq.2 (by omega)
              have hs6 := Lib.hid (hset x)
              have hB6 := Lib.hid (hb.out.setCell (p := ⟨g, i.length * 2 + 1, none⟩) hBg (.int .u64 x))
              have hcl : w3.heap.size ≤ g := hBg
              clear hst hset hoc hbx hown hb
              have ho5 : Hid (OwnR (wr.setCell ⟨g, i.length * 2 + 1, none⟩ (.int .u64 x)) w3.heap.size (.slice (some ⟨g, 0, none⟩) (i.length + 1) cap6) (normF (ts.take (q + 1)))) := Lib.hid (by rw [hst2.out]; exact hs6.out)
              clear hs6 hst2
              generalize i.length = L at cl fl hil hB6 ho5 hol ⊢
              go_wp2_with fail
              go_roundw
              case rel => exact ⟨q + 1, by go_num, by omega, ho5, hB6⟩
              case measure => simp [intOf] <;> omega
            · have hst2 : Hid (normF (ts.take (q + 1)) = i ++ [(a, b)] ++ [(x, x)]) := Lib.hid (by rw [hst, normStep_new _ _ _ _ hbx])
              have hq1 : ((b : Int) == (x : Int) - 1) = false := beq_eq_false_iff_ne.2 (by omega)
              have hln : (i ++ [(a, b)]).length = i.length + 1 := by simp
              have hown0 : Hid (OwnR wr w3.heap.size (.slice (some ⟨g, 0, none⟩) (i.length + 1) cap6) (i ++ [(a, b)])) := hown
              generalize i ++ [(a, b)] = out at hown0 hst2 hln
              clear hst hset hoc hbx hown hol hBg
              generalize i.length = L at cl fl hil hown0 hln ⊢
              go_wp2_with (at_builtin; refine wpList_append_range (W := wr) rfl _ _ rfl w3.heap.size (.slice (some ⟨g, 0, none⟩) (L + 1) cap6) out x x rfl rfl hown0.out (by omega) hsq ?_)
              intro v6 w4 ho4 hb4
              have hB4 := Lib.hid (hb.out.trans hb4)
              have ho5 : Hid (OwnR w4 w3.heap.size v6 (normF (ts.take (q + 1)))) := Lib.hid (by rw [hst2.out]; exact ho4)
              clear ho4 hb4 hb
              go_wp2_with fail
              go_roundw
              case rel => exact ⟨q + 1, by go_num, by omega, ho5, hB4⟩
              case measure => simp [intOf] <;> omega
        · obtain rfl : q = ts.length := by omega
          rw [List.take_length] at hown
          have hz3 := hbw3.out.size
          go_wp2_with fail
          go_ret
          exact ⟨_, ts, rfl, hri, Lib.hid (OwnR.low hown.out hz3), Lib.hid (hbw3.out.trans (hb.out.mono hz3))⟩
end Go.Proofs.Ytcnebfmlelcliaa
namespace Go.Proofs.Ytcnebfmlelcliaa
open Go.RowKit

structure NInv (ts : List Nat) (rs : List Rng) : Prop where
  one : ∀ r ∈ rs, 1 ≤ r.1 ∧ r.1 ≤ r.2
  gap : rs.Pairwise (fun p q => p.2 + 2 ≤ q.1)
  mem : ∀ x, (∃ r ∈ rs, r.1 ≤ x ∧ x ≤ r.2) ↔ x ∈ ts
  last : ∀ i r, rs = i ++ [r] → r.2 ∈ ts ∧ ∀ t ∈ ts, t ≤ r.2
  nil : rs = [] → ts = []
theorem NInv.snoc {ts : List Nat} {rs : List Rng} (h : NInv ts rs) (n : Nat) (hn : 1 ≤ n) (hlt : ∀ t ∈ ts, t < n) : NInv (ts ++ [n]) (normStep rs n) := by
  rcases List.eq_nil_or_concat rs with rfl | ⟨i, ⟨a, b⟩, rfl⟩
  · have e : ts = [] := h.nil rfl
    subst e
    have e2 : normStep [] n = [(n, n)] := rfl
    rw [e2]
    refine ⟨fun r hr => ?_, List.pairwise_singleton _ _, fun x => ?_, fun i r hr => ?_, fun h => by cases h⟩
    · rw [List.mem_singleton.1 hr]; exact ⟨hn, Nat.le_refl _⟩
    · simp
      exact ⟨fun h => by omega, fun h => by omega⟩
    · cases i with
      | nil => simp at hr; subst hr; simp
      | cons y i => simp at hr
  · rw [List.concat_eq_append] at h ⊢
    obtain ⟨hb, hbl⟩ := h.last i (a, b) rfl
    have hbn := hlt b hb
    have hab := h.one (a, b) (by simp)
    dsimp only at hab
    by_cases e : b + 1 = n
    · rw [normStep_on _ _ _ _ e]
      refine ⟨fun r hr => ?_, ?_, fun x => ?_, fun i' r hr => ?_, fun h => by simp at h⟩
      · rcases List.mem_append.1 hr with hr | hr
        · exact h.one r (by simp [hr])
        · rw [List.mem_singleton.1 hr]; dsimp only; omega
      · have := h.gap
        rw [List.pairwise_append] at this ⊢
        refine ⟨this.1, List.pairwise_singleton _ _, fun p hp q hq => ?_⟩
        rw [List.mem_singleton.1 hq]
        exact this.2.2 p hp (a, b) (by simp)
      · rw [List.mem_append, ← h.mem x]
        constructor
        · rintro ⟨r, hr, h1, h2⟩
          rcases List.mem_append.1 hr with hr | hr
          · exact .inl ⟨r, by simp [hr], h1, h2⟩
          · rw [List.mem_singleton.1 hr] at h1 h2
            dsimp only at h1 h2
            by_cases hx : x = n
            · exact .inr (by simp [hx])
            · exact .inl ⟨(a, b), by simp, h1, by dsimp only; omega⟩
        · rintro (⟨r, hr, h1, h2⟩ | hx)
          · rcases List.mem_append.1 hr with hr | hr
            · exact ⟨r, by simp [hr], h1, h2⟩
            · rw [List.mem_singleton.1 hr] at h1 h2
              exact ⟨(a, n), by simp, h1, by dsimp only at h2 ⊢; omega⟩
          · rw [List.mem_singleton.1 hx]
            exact ⟨(a, n), by simp, by dsimp only; omega, Nat.le_refl _⟩
      · obtain ⟨_, e2⟩ := List.append_inj' hr rfl
        obtain rfl : (a, n) = r := by simpa using e2
        refine ⟨by simp, fun t ht => ?_⟩
        rcases List.mem_append.1 ht with ht | ht
        · have := hlt t ht; dsimp only; omega
        · rw [List.mem_singleton.1 ht]; exact Nat.le_refl _
    · rw [normStep_new _ _ _ _ e]
      refine ⟨fun r hr => ?_, ?_, fun x => ?_, fun i' r hr => ?_, fun h => by simp at h⟩
      · rcases List.mem_append.1 hr with hr | hr
        · exact h.one r hr
        · rw [List.mem_singleton.1 hr]; exact ⟨hn, Nat.le_refl _⟩
      · rw [List.pairwise_append]
        refine ⟨h.gap, List.pairwise_singleton _ _, fun p hp q hq => ?_⟩
        rw [List.mem_singleton.1 hq]
        dsimp only
        have : p.2 ∈ ts := (h.mem p.2).1 ⟨p, hp, (h.one p hp).2, Nat.le_refl _⟩
        have := hbl _ this
        dsimp only at this
        omega
      · rw [List.mem_append, ← h.mem x]
        constructor
        · rintro ⟨r, hr, h1, h2⟩
          rcases List.mem_append.1 hr with hr | hr
          · exact .inl ⟨r, hr, h1, h2⟩
          · rw [List.mem_singleton.1 hr] at h1 h2
            dsimp only at h1 h2
            exact .inr (by simp; omega)
        · rintro (⟨r, hr, h1, h2⟩ | hx)
          · exact ⟨r, List.mem_append_left _ hr, h1, h2⟩
          · rw [List.mem_singleton.1 hx]
            exact ⟨(n, n), by simp, Nat.le_refl _, Nat.le_refl _⟩
      · obtain ⟨_, e2⟩ := List.append_inj' hr rfl
        obtain rfl : (n, n) = r := by simpa using e2
        refine ⟨by simp, fun t ht => ?_⟩
        rcases List.mem_append.1 ht with ht | ht
        · have := hlt t ht; dsimp only; omega
        · rw [List.mem_singleton.1 ht]; exact Nat.le_refl _
theorem NInv.nil0 : NInv [] (normF []) := ⟨fun r hr => by simp [normF] at hr, List.Pairwise.nil, fun x => by simp [normF], fun i r hr => by simp [normF] at hr, fun _ => rfl⟩
theorem ninv_all (ts : List Nat) (h1 : ∀ t ∈ ts, 1 ≤ t) (h2 : ts.Pairwise (· < ·)) : NInv ts (normF ts) := by
  have key : ∀ k, k ≤ ts.length → NInv (ts.take k) (normF (ts.take k)) := fun k => by
    induction k with
    | zero => intro _; exact NInv.nil0
    | succ k ih =>
      intro hk
      have e := List.take_succ_eq_append_getElem (l := ts) (show k < ts.length by omega)
      rw [e, normF_snoc]
      refine (ih (by omega)).snoc _ (h1 _ (List.getElem_mem _)) (fun t ht => ?_)
      obtain ⟨j, hj, rfl⟩ := List.mem_iff_getElem.1 ht
      rw [List.length_take] at hj
      rw [List.getElem_take]
      exact List.pairwise_iff_getElem.1 h2 j k (by omega) (by omega) (by omega)
  have := key ts.length (Nat.le_refl _)
  rwa [List.take_length] at this
theorem Rising.ninv {of ts : List Nat} (h : Rising of ts) : NInv ts (normF ts) := by
  refine ninv_all ts (fun t ht => ((h.2 t).1 ht).1) ?_
  have := h.1.1
  refine (List.pairwise_iff_getElem.2 fun i j hi hj hij => ?_)
  have e1 := List.pairwise_iff_getElem.1 h.1.2 i j hi hj hij
  have e2 := List.pairwise_iff_getElem.1 this i j hi hj hij
  omega
theorem hasOne_iff {r : Rng} (h : 1 ≤ r.1 ∧ r.1 ≤ r.2) (x : Nat) : hasOne 0 x r = true ↔ r.1 ≤ x ∧ x ≤ r.2 := by
  unfold hasOne realI
  rw [if_neg (by omega), if_neg (by omega)]
  simp only [Bool.and_eq_true, decide_eq_true_eq]
  omega
theorem NInv.has {ts : List Nat} {rs : List Rng} (h : NInv ts rs) (x : Nat) : hasL rs 0 x = decide (x ∈ ts) := by
  rw [Bool.eq_iff_iff, decide_eq_true_eq, ← h.mem x]
  unfold hasL
  rw [List.any_eq_true]
  exact ⟨fun ⟨r, hr, hx⟩ => ⟨r, hr, (hasOne_iff (h.one r hr) x).1 hx⟩, fun ⟨r, hr, hx⟩ => ⟨r, hr, (hasOne_iff (h.one r hr) x).2 hx⟩⟩
end Go.Proofs.Ytcnebfmlelcliaa
namespace Go.Proofs.Ytcnebfmlelcliaa
open Go.RowKit

theorem nodup_len : ∀ (ts of : List Nat), ts.Nodup → (∀ x ∈ ts, x ∈ of) → ts.length ≤ of.length
  | [], of, _, _ => Nat.zero_le _
  | t :: ts, of, hn, h => by
    have ht : t ∈ of := h t (by simp)
    have h2 := nodup_len ts (of.erase t) (List.nodup_cons.1 hn).2 (fun x hx => by
      have hne : x ≠ t := fun e => (List.nodup_cons.1 hn).1 (by rw [← e]; exact hx)
      exact (List.mem_erase_of_ne hne).2 (h x (by simp [hx])))
    rw [List.length_erase_of_mem ht] at h2
    have := List.length_pos_of_mem ht
    rw [List.length_cons]; omega
end Go.Proofs.Ytcnebfmlelcliaa
namespace Go.Proofs.Ytcnebfmlelcliaa
open Go.RowKit

def bs (of : List Nat) (last best y : Nat) : Nat :=
  if y = 1 ∧ last = 0 then 1 else if last < y ∧ y - 1 ∉ of ∧ (best = 0 ∨ y < best) then y else best
theorem bs_one {of : List Nat} {last best y : Nat} (h : y = 1 ∧ last = 0) : bs of last best y = 1 := if_pos h
theorem bs_set {of : List Nat} {last best y : Nat} (h : ¬ (y = 1 ∧ last = 0)) (h2 : last < y ∧ y - 1 ∉ of ∧ (best = 0 ∨ y < best)) : bs of last best y = y := by unfold bs; rw [if_neg h, if_pos h2]
theorem bs_keep {of : List Nat} {last best y : Nat} (h : ¬ (y = 1 ∧ last = 0)) (h2 : ¬ (last < y ∧ y - 1 ∉ of ∧ (best = 0 ∨ y < best))) : bs of last best y = best := by unfold bs; rw [if_neg h, if_neg h2]
def bestOf (of : List Nat) (last k : Nat) : Nat := (of.take k).foldl (bs of last) 0
theorem bestOf_step {of : List Nat} {last k : Nat} (h : k < of.length) : bestOf of last (k + 1) = bs of last (bestOf of last k) of[k] := by
  unfold bestOf
  rw [List.take_succ_eq_append_getElem h, List.foldl_append]; rfl
def Start (of : List Nat) (x : Nat) : Prop := x ∈ of ∧ 1 ≤ x ∧ (x = 1 ∨ x - 1 ∉ of)
structure BI (of seen : List Nat) (last best : Nat) : Prop where
  good : best = 0 ∨ (Start of best ∧ last < best)
  least : ∀ x ∈ seen, Start of x → last < x → best ≠ 0 ∧ best ≤ x
theorem BI.step {of seen : List Nat} {last best y : Nat} (h : BI of seen last best) (hy : y ∈ of) : BI of (seen ++ [y]) last (bs of last best y) := by
  by_cases h1 : y = 1 ∧ last = 0
  · rw [bs_one h1]
    refine ⟨.inr ⟨⟨by rw [← h1.1]; exact hy, Nat.le_refl _, .inl rfl⟩, by omega⟩, fun x _ hx _ => ⟨by omega, hx.2.1⟩⟩
  · by_cases h2 : last < y ∧ y - 1 ∉ of ∧ (best = 0 ∨ y < best)
    · rw [bs_set h1 h2]
      refine ⟨.inr ⟨⟨hy, by omega, .inr h2.2.1⟩, h2.1⟩, fun x hx hs hl => ?_⟩
      rcases List.mem_append.1 hx with hx | hx
      · have := h.least x hx hs hl
        omega
      · rw [List.mem_singleton.1 hx]
        omega
    · rw [bs_keep h1 h2]
      refine ⟨h.good, fun x hx hs hl => ?_⟩
      rcases List.mem_append.1 hx with hx | hx
      · exact h.least x hx hs hl
      · obtain rfl := List.mem_singleton.1 hx
        rcases hs.2.2 with h3 | h3
        · omega
        · by_cases h4 : best = 0 ∨ x < best
          · exact absurd ⟨hl, h3, h4⟩ h2
          · omega
theorem BI.all (of : List Nat) (last : Nat) : BI of of last (bestOf of last of.length) := by
  have key : ∀ k, k ≤ of.length → BI of (of.take k) last (bestOf of last k) := fun k => by
    induction k with
    | zero => intro _; exact ⟨.inl rfl, fun x hx => by simp at hx⟩
    | succ k ih =>
      intro hk
      rw [bestOf_step (by omega), List.take_succ_eq_append_getElem (by omega)]
      exact (ih (by omega)).step (List.getElem_mem _)
  have := key of.length (Nat.le_refl _)
  rwa [List.take_length] at this
def lastAt (rs : List Rng) : Nat → Nat
  | 0 => 0
  | k + 1 => (rs[k]?.getD (0, 0)).2
theorem lastAt_succ {rs : List Rng} {k : Nat} (h : k < rs.length) : lastAt rs (k + 1) = rs[k].2 := by
  show (rs[k]?.getD (0, 0)).2 = _
  rw [List.getElem?_eq_getElem h]; rfl
theorem NInv.far {ts : List Nat} {rs : List Rng} (h : NInv ts rs) {i j : Nat} (hi : i < rs.length) (hj : j < rs.length) (hij : i < j) : rs[i].2 + 2 ≤ rs[j].1 := List.pairwise_iff_getElem.1 h.gap i j hi hj hij
theorem NInv.start {of ts : List Nat} {rs : List Rng} (h : NInv ts rs) (ht : ∀ x, x ∈ ts ↔ 0 < x ∧ x ∈ of) {i : Nat} (hi : i < rs.length) : Start of rs[i].1 := by
  have h1 := h.one _ (List.getElem_mem hi)
  refine ⟨((ht _).1 ((h.mem _).1 ⟨_, List.getElem_mem hi, Nat.le_refl _, h1.2⟩)).2, h1.1, ?_⟩
  by_cases e : rs[i].1 = 1
  · exact .inl e
  · refine .inr fun hm => ?_
    obtain ⟨r, hr, h2, h3⟩ := (h.mem (rs[i].1 - 1)).2 ((ht _).2 ⟨by omega, hm⟩)
    obtain ⟨j, hj, rfl⟩ := List.mem_iff_getElem.1 hr
    rcases Nat.lt_trichotomy j i with g | g | g
    · have := h.far hj hi g; omega
    · subst g; omega
    · have := h.far hi hj g; omega
theorem NInv.start_of {of ts : List Nat} {rs : List Rng} (h : NInv ts rs) (ht : ∀ x, x ∈ ts ↔ 0 < x ∧ x ∈ of) {x : Nat} (hx : Start of x) : ∃ (j : Nat) (hj : j < rs.length), rs[j].1 = x := by
  obtain ⟨r, hr, h2, h3⟩ := (h.mem x).2 ((ht _).2 ⟨hx.2.1, hx.1⟩)
  have h1 := h.one r hr
  obtain ⟨j, hj, e⟩ := List.mem_iff_getElem.1 hr
  refine ⟨j, hj, ?_⟩
  rw [e]
  rcases Nat.lt_or_ge r.1 x with g | g
  · have := ((ht _).1 ((h.mem (x - 1)).1 ⟨r, hr, by omega, by omega⟩)).2
    rcases hx.2.2 with g2 | g2
    · omega
    · exact absurd this g2
  · omega
theorem NInv.later {ts : List Nat} {rs : List Rng} (h : NInv ts rs) {j k : Nat} (hj : j < rs.length) (hk : k ≤ rs.length) : lastAt rs k < rs[j].1 ↔ k ≤ j := by
  have hj1 := h.one _ (List.getElem_mem hj)
  cases k with
  | zero => exact ⟨fun _ => Nat.zero_le _, fun _ => by show 0 < _; omega⟩
  | succ m =>
    rw [lastAt_succ (by omega)]
    have hm1 := h.one _ (List.getElem_mem (show m < rs.length by omega))
    rcases Nat.lt_trichotomy j m with g | g | g
    · have := h.far hj (by omega) g
      exact ⟨fun _ => by omega, fun _ => by omega⟩
    · subst g; exact ⟨fun _ => by omega, fun _ => by omega⟩
    · have := h.far (show m < rs.length by omega) hj g
      exact ⟨fun _ => by omega, fun _ => by omega⟩
theorem NInv.best {of ts : List Nat} {rs : List Rng} (h : NInv ts rs) (ht : ∀ x, x ∈ ts ↔ 0 < x ∧ x ∈ of) {k : Nat} (hk : k < rs.length) : bestOf of (lastAt rs k) of.length = rs[k].1 := by
  have hb := BI.all of (lastAt rs k)
  generalize bestOf of (lastAt rs k) of.length = best at hb
  have h1 := h.start ht hk
  have h2 := hb.least _ h1.1 h1 ((h.later hk (by omega)).2 (Nat.le_refl _))
  rcases hb.good with h3 | ⟨h3, h4⟩
  · exact absurd h3 h2.1
  · obtain ⟨j, hj, rfl⟩ := h.start_of ht h3
    have h5 := (h.later hj (by omega)).1 h4
    rcases Nat.lt_or_ge k j with g | g
    · have := h.far hk hj g
      have := h.one _ (List.getElem_mem hk)
      omega
    · obtain rfl : j = k := by omega
      rfl
end Go.Proofs.Ytcnebfmlelcliaa

namespace Go.Proofs.Ytcnebfmlelcliaa
set_option linter.unusedSimpArgs false
open Go.RowKit
attribute [local go_sem ↓] Go.wp_at_zero Go.wp_at_succ

/-- what Set takes of a Uid -/
def pickN (l : List (Nat × Nat)) (byUid : Bool) (u : Nat) : List Nat := match seqN l u with
  | 0 => []
  | n + 1 => [if byUid then u else n + 1]
def picksN (l : List (Nat × Nat)) (us : List Nat) (byUid : Bool) : List Nat := us.flatMap (pickN l byUid)
theorem picks_step {l : List (Nat × Nat)} {us : List Nat} {byUid : Bool} {k : Nat} (hk : k < us.length) : picksN l (us.take (k + 1)) byUid = picksN l (us.take k) byUid ++ pickN l byUid us[k] := by
  unfold picksN
  rw [List.take_succ_eq_append_getElem hk, List.flatMap_append]
  simp
theorem pickN_len (l : List (Nat × Nat)) (byUid : Bool) (u : Nat) : (pickN l byUid u).length ≤ 1 := by unfold pickN; split <;> simp
theorem picksN_len (l : List (Nat × Nat)) (byUid : Bool) : ∀ us : List Nat, (picksN l us byUid).length ≤ us.length
  | [] => by simp [picksN]
  | u :: r => by
    have h1 := picksN_len l byUid r
    have h2 := pickN_len l byUid u
    unfold picksN at h1 ⊢
    rw [List.flatMap_cons, List.length_append, List.length_cons]
    omega
theorem picksN_lt {l : List (Nat × Nat)} {us : List Nat} {byUid : Bool} (hl : l.length < 18446744073709551616) (hu : ∀ x ∈ us, x < 18446744073709551616) : ∀ x ∈ picksN l us byUid, x < 18446744073709551616 := fun x hx => by
  obtain ⟨u, h1, h2⟩ := List.mem_flatMap.1 hx
  have hs := seqN_le l u
  unfold pickN at h2
  cases h : seqN l u with
  | zero => rw [h] at h2; cases h2
  | succ n =>
    rw [h] at h2 hs
    rw [List.mem_singleton.1 h2]
    cases byUid with
    | true => exact hu u h1
    | false => show n + 1 < _; omega
set_option maxRecDepth 100000 in
set_option maxHeartbeats 16000000 in
theorem setV_any (s : ByteArray) (val : Nat) (l : List (Nat × Nat)) (us : List Nat) (v vu : Value) (byUid : Bool) (W : World) (hl : l.length ≤ 100000) (hul : us.length ≤ 100000) (hu : ∀ x ∈ us, x < 18446744073709551616) (hk : RangesIn W W.heap.size v l) (hr : Rd W vu us.length (us.map encU)) :
    Calls Try.prog 18 #[.agg #[.string s, .int .u64 val, v], vu, .bool byUid] W (NormRet (picksN l us byUid) W) := by
  have hrow := Lib.hid (fun W' u (hW : Below W.heap.size W W') => row_any s val l v u W' (by omega) (hk.on hW))
  have hr0 := Lib.hid (fun W' (hW : Below W.heap.size W W') => hr.below hW)
  obtain ⟨av, cv, hv, -⟩ := hk
  subst hv
  obtain ⟨ar, cr, hv, -⟩ := hr
  subst hv
  have hz1 := (Zoo.nil W).newBox [.string s, .int .u64 val, .slice av l.length cv].toArray 25
  generalize hVB : W.heap.size = VB at hz1
  generalize hWa : (W.alloc (.cells [.string s, .int .u64 val, .slice av l.length cv].toArray 25)) = Wa at hz1
  have hbW := hz1.bel
  have hV : Hid (∀ w', Below Wa.heap.size Wa w' → w'.cell? ⟨VB, 0, none⟩ = some (.string s) ∧ w'.cell? ⟨VB, 1, none⟩ = some (.int .u64 val) ∧ w'.cell? ⟨VB, 2, none⟩ = some (.slice av l.length cv)) := Lib.hid (fun w' hB => by
    have := heap_below (hz1.box 0 rfl).1 hB
    exact ⟨box_cell this 0, box_cell this 1, box_cell this 2⟩)
  replace hbW := Lib.hid hbW
  replace hu := Lib.hid hu
  clear hz1
  go_enter Try.func18, Try.ntmps18
  go_upto_region 1 with fail
  clear hWa
  go_wp2_with fail
  go_loopw [7, 13] (fun v7 v13 wr => ∃ q : Nat, v13 = .int .i64 q ∧ q ≤ us.length ∧ Hid (OwnN wr Wa.heap.size v7 (picksN l (us.take q) byUid)) ∧ Hid (Below Wa.heap.size Wa wr)) (fun _ v13 _ => us.length - (intOf v13).toNat)
  case atStart => exact ⟨0, rfl, Nat.zero_le _, Lib.hid (OwnN.nil _ _), Lib.hid (Below.refl _ _)⟩
  case round =>
    obtain ⟨q, rfl, hq, hown, hb⟩ := hrel
    have hBW := Lib.hid (hbW.out.trans (hb.out.mono hbW.out.size))
    by_cases hlt : q < us.length
    · obtain ⟨x0, x1, x2⟩ := hV.out wr hb.out
      obtain ⟨b, o, hao, hbB, hcs⟩ := (hr0.out wr hBW.out).at_pos (by omega)
      subst hao
      have r0 : wr.cell? ⟨b, o + q, none⟩ = some (.int .u64 (us[q] : Nat)) := hcs q _ (by rw [List.getElem?_map, List.getElem?_eq_getElem hlt]; rfl)
      have hst := Lib.hid (picks_step (l := l) (byUid := byUid) hlt)
      have hln : Hid ((picksN l (us.take q) byUid).length ≤ 100000) := Lib.hid (by have := picksN_len l byUid (us.take q); rw [List.length_take] at this; omega)
      obtain ⟨u, hu'⟩ : ∃ u, us[q] = u := ⟨_, rfl⟩
      rw [hu'] at r0 hst
      have hl0 : (0 : Int) ≤ (q : Int) := by omega
      have hl1 : (q : Int) < (us.length : Int) := by omega
      have hcall := Lib.hid (hrow.out wr u hBW.out)
      have hsl := seqN_le l u
      have hpk : Hid (pickN l byUid u = match seqN l u with | 0 => [] | n + 1 => [if byUid then u else n + 1]) := Lib.hid rfl
      generalize seqN l u = sn at hcall hsl hpk
      clear hu' hbB hcs
      go_wp2_with fail
      refine hcall.out.mono ?_
      rintro e w5 ⟨rfl, hb5⟩
      have hb6 := Lib.hid (hb.out.trans (hb5.out.mono hb.out.size))
      have ho5 := Lib.hid (hown.out.below hb5.out)
      clear hcall hb5 hown hb x0 x1 x2 r0
      cases sn with
      | zero =>
        have e1 : decide (((0 : Nat) : Int) - 1 < 0) = true := by decide
        have ho6 : Hid (OwnN w5 Wa.heap.size u7 (picksN l (us.take (q + 1)) byUid)) := Lib.hid (by rw [hst.out, hpk.out]; show OwnN w5 _ u7 (_ ++ []); rw [List.append_nil]; exact ho5.out)
        clear hst hpk ho5 hln
        go_wp2_with fail
        go_roundw
        case rel => exact ⟨q + 1, by go_num, by omega, ho6, hb6⟩
        case measure => simp [intOf] <;> omega
      | succ sn =>
        have hii : (((sn + 1 : Nat) : Int) - 1) = (sn : Int) := by omega
        rw [hii]
        have e1 : decide ((sn : Int) < 0) = false := decide_eq_false (by omega)
        have e2 : ¬ (sn : Int) < 0 := by omega
        have hw1 : IntKind.i64.wrap ((sn : Int) + 1) = (sn : Int) + 1 := by rw [IntKind.wrap_i64]; omega
        have hw2 : IntKind.u64.wrap ((sn : Int) + 1) = (sn : Int) + 1 := by rw [IntKind.wrap_u64]; omega
        have hsz8 : Hid (((picksN l (us.take q) byUid).length + 1) * 8 ≤ 140737488355328) := Lib.hid (by have := hln.out; omega)
        have hsz := hb6.out.size
        obtain ⟨out, hout⟩ : ∃ out, picksN l (us.take q) byUid = out := ⟨_, rfl⟩
        rw [hout] at hst ho5 hsz8
        clear hii hout hln hsl
        cases byUid with
        | true =>
          replace hst : Hid (picksN l (us.take (q + 1)) true = out ++ [u]) := Lib.hid (by rw [hst.out, hpk.out]; rfl)
          clear hpk hw1 hw2
          go_wp2_with (at_builtin; refine wpList_append_num (W := w5) rfl (.tmp 31) (.tmp 33) rfl Wa.heap.size u7 out u rfl rfl ho5.out hsz8.out hsz ?_)
          intro v7 w7 ho7 hb7
          have hb8 := Lib.hid (hb6.out.trans hb7)
          have ho8 : Hid (OwnN w7 Wa.heap.size v7 (picksN l (us.take (q + 1)) true)) := Lib.hid (by rw [hst.out]; exact ho7)
          clear ho7 hb7 ho5 hst hb6 hsz
          go_wp2_with fail
          go_roundw
          case rel => exact ⟨q + 1, by go_num, by omega, ho8, hb8⟩
          case measure => simp [intOf] <;> omega
        | false =>
          replace hst : Hid (picksN l (us.take (q + 1)) false = out ++ [sn + 1]) := Lib.hid (by rw [hst.out, hpk.out]; rfl)
          clear hpk
          go_wp2_with (at_builtin; refine wpList_append_num (W := w5) rfl (.tmp 20) (.tmp 24) rfl Wa.heap.size u7 out (sn + 1) rfl rfl ho5.out hsz8.out hsz ?_)
          intro v7 w7 ho7 hb7
          have hb8 := Lib.hid (hb6.out.trans hb7)
          have ho8 : Hid (OwnN w7 Wa.heap.size v7 (picksN l (us.take (q + 1)) false)) := Lib.hid (by rw [hst.out]; exact ho7)
          clear ho7 hb7 ho5 hst hb6 hsz
          go_wp2_with fail
          go_roundw
          case rel => exact ⟨q + 1, by go_num, by omega, ho8, hb8⟩
          case measure => simp [intOf] <;> omega
    · obtain rfl : q = us.length := by omega
      rw [List.take_length] at hown
      have hnc := Lib.hid (norm_any sort_all (picksN l us byUid) u7 wr hown.out.rd (by have := picksN_len l byUid us; omega) (by have := picksN_len l byUid us; omega) (picksN_lt (by omega) hu.out))
      go_wp2_with fail
      refine hnc.out.mono ?_
      rintro e w9 ⟨vn, ts, rfl, hri, ho9, hb9⟩
      have ho10 : Hid (OwnR w9 W.heap.size vn (normF ts)) := Lib.hid (by
        refine ⟨ho9.out.1, ?_⟩
        rcases ho9.out.2 with h2 | ⟨g, cap, cur, hv, hbb, r⟩
        · exact .inl h2
        · exact .inr ⟨g, cap, cur, hv, Nat.le_trans hBW.out.size hbb, r⟩)
      have hb10 := Lib.hid (hBW.out.trans (hb9.out.mono hBW.out.size))
      clear ho9 hb9 hnc hown
      go_wp2_with fail
      go_ret
      exact ⟨vn, ts, rfl, hri, ho10, hb10⟩
end Go.Proofs.Ytcnebfmlelcliaa
namespace Go.Proofs.Ytcnebfmlelcliaa
theorem NInv.hasM {ts : List Nat} {rs : List (Nat × Nat)} (h : NInv ts rs) (most x : Nat) : hasL rs most x = decide (x ∈ ts) := by
  rw [Bool.eq_iff_iff, decide_eq_true_eq, ← h.mem x]
  unfold hasL
  rw [List.any_eq_true]
  have key : ∀ r ∈ rs, hasOne most x r = true ↔ r.1 ≤ x ∧ x ≤ r.2 := fun r hr => by
    have := h.one r hr
    unfold hasOne realI
    rw [if_neg (by omega), if_neg (by omega)]
    simp only [Bool.and_eq_true, decide_eq_true_eq]
    omega
  exact ⟨fun ⟨r, hr, hx⟩ => ⟨r, hr, (key r hr).1 hx⟩, fun ⟨r, hr, hx⟩ => ⟨r, hr, (key r hr).2 hx⟩⟩
theorem getD_mem_ {l : List (Nat × Nat)} {i : Nat} (h : i < l.length) : l.getD i (0, 0) ∈ l := by
  have e : l.getD i (0, 0) = l[i] := by simp [List.getD, h]
  rw [e]; exact List.getElem_mem h
/-- is row i meant -/
def okAt (rs l : List (Nat × Nat)) (b : Bool) (i : Nat) : Bool := if b then hasL rs (mostL l) (l.getD i (0, 0)).1 else hasL rs l.length (i + 1)
theorem meantN_succ (rs l : List (Nat × Nat)) (b : Bool) (k : Nat) : meantN rs l b (k + 1) = if okAt rs l b k = true then meantN rs l b k ++ [(l.getD k (0, 0)).1] else meantN rs l b k := by
  cases b <;> rfl
theorem mem_meantN {rs l : List (Nat × Nat)} {b : Bool} {u : Nat} : ∀ {k : Nat}, u ∈ meantN rs l b k ↔ ∃ i, i < k ∧ okAt rs l b i = true ∧ (l.getD i (0, 0)).1 = u
  | 0 => Iff.intro (fun h => by cases h) (fun h => by obtain ⟨i, h, -⟩ := h; exact absurd h (Nat.not_lt_zero i))
  | k + 1 => by
    rw [meantN_succ]
    have ih := mem_meantN (rs := rs) (l := l) (b := b) (u := u) (k := k)
    constructor
    · intro h
      split at h
      · rename_i hk
        rcases List.mem_append.1 h with h | h
        · obtain ⟨i, h1, h2⟩ := ih.1 h
          exact ⟨i, by omega, h2⟩
        · exact ⟨k, by omega, hk, (List.mem_singleton.1 h).symm⟩
      · obtain ⟨i, h1, h2⟩ := ih.1 h
        exact ⟨i, by omega, h2⟩
    · rintro ⟨i, h1, h2, h3⟩
      by_cases e : i = k
      · subst e
        rw [if_pos h2]
        exact List.mem_append.2 (.inr (List.mem_singleton.2 h3.symm))
      · have := ih.2 ⟨i, by omega, h2, h3⟩
        split
        · exact List.mem_append.2 (.inl this)
        · exact this
theorem meantN_congr {rs rs' l : List (Nat × Nat)} {b b' : Bool} : ∀ k, (∀ i, i < k → okAt rs l b i = okAt rs' l b' i) → meantN rs l b k = meantN rs' l b' k
  | 0, _ => rfl
  | k + 1, h => by
    rw [meantN_succ, meantN_succ, h k (Nat.lt_succ_self k), meantN_congr k (fun i hi => h i (by omega))]
theorem seqN_got : ∀ {l : List (Nat × Nat)} {u n : Nat}, seqN l u = n + 1 → n < l.length ∧ (l.getD n (0, 0)).1 = u
  | [], u, n, h => by cases h
  | r :: t, u, n, h => by
    unfold seqN at h
    split at h
    · obtain rfl : n = 0 := by omega
      exact ⟨by simp, by simpa⟩
    · split at h
      · cases h
      · rename_i m hm
        obtain rfl : n = m + 1 := by omega
        obtain ⟨h1, h2⟩ := seqN_got hm
        exact ⟨by simp; omega, by simpa using h2⟩
theorem seqN_row : ∀ {l : List (Nat × Nat)} (_ : l.Pairwise (fun x y => x.1 < y.1)) {i : Nat}, i < l.length → seqN l (l.getD i (0, 0)).1 = i + 1
  | [], _, i, hi => absurd hi (Nat.not_lt_zero i)
  | r :: t, hd, 0, _ => by simp [seqN]
  | r :: t, hd, i + 1, hi => by
    obtain ⟨h1, h2⟩ := List.pairwise_cons.1 hd
    have hi' : i < t.length := by simpa using hi
    have ih := seqN_row h2 hi'
    have e : (r :: t).getD (i + 1) (0, 0) = t.getD i (0, 0) := by simp
    have hm : t.getD i (0, 0) ∈ t := getD_mem_ hi'
    have hne : r.1 ≠ (t.getD i (0, 0)).1 := by have := h1 _ hm; omega
    rw [e]
    unfold seqN
    rw [if_neg hne, ih]
theorem set_means {rs l : List (Nat × Nat)} {b b' : Bool} {ts : List Nat} (hd : l.Pairwise (fun x y => x.1 < y.1)) (h1 : ∀ r ∈ l, 1 ≤ r.1) (hr : Rising (picksN l (meantN rs l b l.length) b') ts) : meantN (normF ts) l b' l.length = meantN rs l b l.length := by
  have hn := hr.ninv
  refine meantN_congr _ (fun i hi => ?_)
  have hs := seqN_row hd hi
  have hm : (l.getD i (0, 0)).1 ∈ meantN rs l b l.length ↔ okAt rs l b i = true := by
    rw [mem_meantN]
    refine ⟨fun ⟨j, hj, hk, he⟩ => ?_, fun h => ⟨i, hi, h, rfl⟩⟩
    have h2 := seqN_row hd hj
    rw [he, hs] at h2
    obtain rfl : i = j := by omega
    exact hk
  have hge : 1 ≤ (l.getD i (0, 0)).1 := h1 _ (getD_mem_ hi)
  have hp : ∀ x, x ∈ picksN l (meantN rs l b l.length) b' ↔ ∃ u ∈ meantN rs l b l.length, ∃ n, seqN l u = n + 1 ∧ x = if b' then u else n + 1 := fun x => by
    unfold picksN
    rw [List.mem_flatMap]
    refine ⟨fun ⟨u, hu, hx⟩ => ⟨u, hu, ?_⟩, fun ⟨u, hu, n, hn, hx⟩ => ⟨u, hu, ?_⟩⟩
    · unfold pickN at hx
      split at hx
      · cases hx
      · rename_i n hn
        exact ⟨n, hn, List.mem_singleton.1 hx⟩
    · unfold pickN
      rw [hn, hx]
      exact List.mem_singleton.2 rfl
  rw [Bool.eq_iff_iff, ← hm]
  unfold okAt
  cases b' with
  | true =>
    rw [if_pos rfl, hn.hasM, decide_eq_true_eq, hr.2, hp]
    constructor
    · rintro ⟨-, u, hu, n, -, hx⟩
      rw [hx]; exact hu
    · intro h
      exact ⟨by omega, _, h, i, hs, rfl⟩
  | false =>
    rw [if_neg (by decide), hn.hasM, decide_eq_true_eq, hr.2, hp]
    constructor
    · rintro ⟨-, u, hu, n, hn, hx⟩
      have hx : i + 1 = n + 1 := hx
      obtain rfl : i = n := by omega
      rw [(seqN_got hn).2]; exact hu
    · intro h
      exact ⟨by omega, _, h, i, hs, rfl⟩
theorem set_in {l : List (Nat × Nat)} {us ts : List Nat} (hr : Rising (picksN l us false) ts) : outL (normF ts) l.length = false := by
  have hn := hr.ninv
  unfold outL
  rw [List.any_eq_false]
  intro r hm
  have h1 := hn.one r hm
  have h2 : r.2 ∈ ts := (hn.mem r.2).1 ⟨r, hm, h1.2, Nat.le_refl _⟩
  have h3 := ((hr.2 _).1 h2).2
  unfold picksN at h3
  obtain ⟨u, -, hx⟩ := List.mem_flatMap.1 h3
  have h4 : r.2 ≤ l.length := by
    unfold pickN at hx
    split at hx
    · cases hx
    · rename_i n he
      have h5 := (seqN_got he).1
      have h6 : r.2 = n + 1 := List.mem_singleton.1 hx
      omega
  unfold outOne realI
  rw [if_neg (by omega), if_neg (by omega)]
  simp only [Bool.or_eq_true, decide_eq_true_eq]
  omega
end Go.Proofs.Ytcnebfmlelcliaa
