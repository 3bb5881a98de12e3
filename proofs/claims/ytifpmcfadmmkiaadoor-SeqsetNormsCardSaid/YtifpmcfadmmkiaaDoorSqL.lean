/- Norm: walked, over what slices.Sort does. -/
import Derived.Test.YtifpmcfadmmkiaaDoorSqK
import Derived.Maps.Views
namespace Go.Proofs.YtifpmcfadmmkiaaDoor
open Go.RowKit Go.Maps

/-- one number more, greater than all before -/
def normStep (out : List Rng) (n : Nat) : List Rng := match out.getLast? with
  | some r => if r.2 + 1 = n then out.dropLast ++ [(r.1, n)] else out ++ [(n, n)]
  | none => [(n, n)]
def normF (ts : List Nat) : List Rng := ts.foldl normStep []
theorem normStep_on (i : List Rng) (a b n : Nat) (h : b + 1 = n) : normStep (i ++ [(a, b)]) n = i ++ [(a, n)] := by
  unfold normStep
  rw [List.getLast?_append]
  simp [h]
theorem normStep_new (i : List Rng) (a b n : Nat) (h : b + 1 ≠ n) : normStep (i ++ [(a, b)]) n = i ++ [(a, b)] ++ [(n, n)] := by
  unfold normStep
  rw [List.getLast?_append]
  simp [h]
theorem normStep_len (out : List Rng) (n : Nat) : (normStep out n).length ≤ out.length + 1 := by
  unfold normStep
  split
  · split
    · simp
    · simp
  · simp
theorem normF_snoc (ts : List Nat) (n : Nat) : normF (ts ++ [n]) = normStep (normF ts) n := by rw [normF, List.foldl_append]; rfl
theorem normF_len : ∀ (ts : List Nat) (out : List Rng), (ts.foldl normStep out).length ≤ out.length + ts.length
  | [], out => Nat.le_refl _
  | n :: r, out => by
    have := normF_len r (normStep out n)
    have := normStep_len out n
    rw [List.foldl_cons, List.length_cons]; omega
/-- the numbers of a list that are not nought, each once, rising -/
def Rising (of ts : List Nat) : Prop := (ts.Nodup ∧ ts.Pairwise (· ≤ ·)) ∧ ∀ x : Nat, x ∈ ts ↔ 0 < x ∧ x ∈ of
def NormRet (of : List Nat) (w : World) (e : Ending) (w' : World) : Prop := ∃ (v : Value) (ts : List Nat), e = .returned v ∧ Hid (Rising of ts) ∧ Hid (OwnR w' w.heap.size v (normF ts)) ∧ Hid (Below w.heap.size w w')
theorem OwnR.at_last {w : World} {B g cap : Nat} {i : List Rng} {a b : Nat} (h : OwnR w B (.slice (some ⟨g, 0, none⟩) (i.length + 1) cap) (i ++ [(a, b)])) :
    w.cell? ⟨g, i.length * 2 + 1, none⟩ = some (.int .u64 b) ∧ w.frozen? ⟨g, i.length * 2 + 1, none⟩ = false ∧ B ≤ g ∧ ∀ c : Nat, OwnR (w.setCell ⟨g, i.length * 2 + 1, none⟩ (.int .u64 c)) B (.slice (some ⟨g, 0, none⟩) (i.length + 1) cap) (i ++ [(a, c)]) := by
  rcases h.2 with ⟨hv, _⟩ | ⟨g', cap', cur, hv, hB, hg, hle, hm, hs, htk⟩
  · cases hv
  · have hl : (i ++ [(a, b)]).length = i.length + 1 := by simp
    rw [hl] at hle htk hv
    cases hv
    have hri := rangesCells_len i
    have e1 : rangesCells (i ++ [(a, b)]) = rangesCells i ++ [.int .u64 a, .int .u64 b] := rangesCells_app i [(a, b)]
    have hlt : i.length * 2 + 1 < cur.size := by omega
    refine ⟨?_, ?_, hB, fun c => ⟨rangesCells_len _, .inr ⟨g, cap, cur.setIfInBounds (i.length * 2 + 1) (.int .u64 c), by simp, hB, ?_, by simpa using hle, hm, by simpa using hs, ?_⟩⟩⟩
    · have h1 : cur.toList[i.length * 2 + 1]? = (rangesCells (i ++ [(a, b)]))[i.length * 2 + 1]? := by
        rw [← htk, List.getElem?_take_of_lt (by omega)]
      rw [e1, List.getElem?_append_right (by omega), hri] at h1
      simp only [World.cell?, hg]
      rw [← Array.getElem?_toList, h1]
      simp
    · simp [World.frozen?, hg]
    · simp only [World.setCell, Array.getElem?_modify, hg, if_true, Option.map_some]
      rfl
    · have e2 : rangesCells (i ++ [(a, c)]) = rangesCells i ++ [.int .u64 a, .int .u64 c] := rangesCells_app i [(a, c)]
      have hl2 : (i ++ [(a, c)]).length = i.length + 1 := by simp
      rw [hl2, e2, Array.toList_setIfInBounds, List.take_set, htk, e1, List.set_append_right _ _ (by omega), hri]
      simp
theorem own_below {H : Type} {w w' : World} {P : Program} {k : TypeId} {R : Value → Option (DataW H × List MemPlace)} {b n : Nat} {D : DataW H} (h : w.ownsMap P k R b n D) (hb : Below w.heap.size w w') : w'.ownsMap P k R b n D := by
  have hbl := h.lt
  obtain ⟨es, clock, hbk, Ft, hs, hD⟩ := h
  exact ⟨es, clock, (hb.block b hbl).trans hbk, Ft, hs, hD⟩
theorem OwnR.low {w : World} {B B' : Nat} {v : Value} {l : List Rng} (h : OwnR w B v l) (hB : B' ≤ B) : OwnR w B' v l := by
  refine ⟨h.1, ?_⟩
  rcases h.2 with h2 | ⟨g, cap, cur, hv, hb, r⟩
  · exact .inl h2
  · exact .inr ⟨g, cap, cur, hv, Nat.le_trans hB hb, r⟩
set_option maxRecDepth 100000 in
set_option maxHeartbeats 4000000 in
theorem norm_any {N : Nat} (hsort : SortOk N) (of : List Nat) (v : Value) (w : World) (hr : Rd w v of.length (of.map encU)) (hN : of.length ≤ N) (hof : of.length ≤ 1000000) (hu : ∀ x ∈ of, x < 18446744073709551616) :
    Calls Tryd.prog 13 #[v] w (NormRet of w) := by
  have hr0 := Lib.hid hr
  obtain ⟨ao, cap, rfl, -⟩ := hr
  have hmm := @run_makeMap Tryd.prog
  replace hu := Lib.hid hu
  replace hsort := Lib.hid hsort
  go_enter Tryd.func13, Tryd.ntmps13
  go_wp2_with fail
  go_loopw [13] (fun v13 wr => ∃ (k : Nat) (D : DataW Unit), v13 = .int .i64 k ∧ k ≤ of.length ∧ Hid (wr.ownsMap Tryd.prog 35 (plainElem Tryd.prog 3) w.heap.size k D) ∧ Hid (∀ x : Nat, Maps.has D (.int .u64 x) = decide (0 < x ∧ x ∈ of.take k)) ∧ Hid (Below w.heap.size w wr)) (fun v13 _ => of.length - (intOf v13).toNat)
  case atStart =>
    refine ⟨0, _, rfl, Nat.zero_le _, Lib.hid (World.ownsMap_made _ _ _ _), Lib.hid (fun x => ?_), Lib.hid ((Below.refl _ _).alloc (Nat.le_refl _) _)⟩
    simp [Maps.has]
  case round =>
    obtain ⟨k, D, rfl, hk, hown, hhas, hb⟩ := hrel
    have hsz := hb.out.size
    by_cases hlt : k < of.length
    · obtain ⟨b, o, hao, hbl, hcell⟩ := hr0.out.at_pos (by omega)
      subst hao
      have hcw := (hb.out.cell (p := ⟨b, o + k, none⟩) hbl).trans (num_cell hcell hlt)
      have hx64 := hu.out _ (List.getElem_mem hlt)
      have htk : of.take (k + 1) = of.take k ++ [of[k]] := List.take_succ_eq_append_getElem hlt
      generalize of[k] = x at hcw hx64 htk
      clear hcell
      by_cases hx0 : 0 < x
      · have hkey : keyOf Tryd.prog 35 (.int .u64 (x : Int)) = some (.int .u64 (x : Int)) := keyOf_int_mk Tryd.underlying35 (by
          have h1 : IntKind.u64.min = 0 := by decide
          have h2 : IntKind.u64.max = 18446744073709551615 := by decide
          simp [Lit.wf, h1, h2]; omega)
        have hhas2 : ∀ d : DataW Unit, Hid (∀ y : Nat, Maps.has (D.put (.int .u64 (x : Int)) d) (.int .u64 y) = decide (0 < y ∧ y ∈ of.take (k + 1))) := fun d => Lib.hid (fun y => by
          by_cases hy : y = x
          · subst hy
            rw [Maps.has_put_same (k := .int .u64 (y : Int)) hown.out.isMap (show WideAt.IsKeyLit (.int .u64 (y : Int)) from trivial), htk, decide_eq_true ⟨hx0, by simp⟩]
          · rw [Maps.has_put_other (fun e => hy (by injection e with _ e2; omega)), hhas.out y, htk]
            simp [hy])
        have hd : decide ((0 : Int) < (x : Int)) = true := by simp; omega
        replace hkey := Lib.hid hkey
        clear htk hhas
        go_wp2_with (first
          | (at_lookup; refine wpList_lookup_own_int _ rfl _ _ 45 rfl 35 3 .i64 (int_keyed Tryd.underlying35) Tryd.underlying45 Tryd.underlying3 (Tryd.zeroValue3 _) w.heap.size k D rfl hown.out _ _ rfl hkey.out ?_; intro c hat hwc)
          | (at_mapUpdate; refine wpList_mapUpdate_own _ rfl _ _ _ 45 rfl 35 3 (int_keyed Tryd.underlying35) Tryd.underlying45 _ w.heap.size k D rfl hown.out (by unfold maxLen; omega) _ _ _ rfl rfl hkey.out _ [] (plainElem_int Tryd.underlying3 (wrap64_wf _)) ?_; intro w1 hown1 hgrow1))
        have hb1 := Lib.hid (hb.out.grown hgrow1 hsz (fun j e => by cases e; exact Nat.le_refl _))
        replace hown1 := Lib.hid hown1
        clear hgrow1 hown hb hat
        go_wp2_with fail
        go_roundw
        case rel => exact ⟨k + 1, _, by go_num, by omega, hown1, hhas2 _, hb1⟩
        case measure => simp [intOf] <;> omega
      · obtain rfl : x = 0 := by omega
        have hhas2 : Hid (∀ x : Nat, Maps.has D (.int .u64 x) = decide (0 < x ∧ x ∈ of.take (k + 1))) := Lib.hid (fun y => by
          rw [hhas.out y, htk]
          by_cases hy : 0 < y
          · have : ¬ y = 0 := by omega
            simp [hy, this]
          · simp [hy])
        clear hx0 htk hhas
        go_wp2_with fail
        go_roundw
        case rel => exact ⟨k + 1, D, by go_num, by omega, Lib.hid (hown.out.mono (Nat.le_succ _)), hhas2, hb⟩
        case measure => simp [intOf] <;> omega
    · obtain rfl : k = of.length := by omega
      rw [List.take_length] at hhas
      have hsize : Maps.size D ≤ of.length := hown.out.size_le
      obtain ⟨W2, hW2⟩ : ∃ W2, W2 = wr.alloc (.cells #[.map (some w.heap.size)] 45) := ⟨_, rfl⟩
      have hbx : Below wr.heap.size wr W2 := by rw [hW2]; exact (Below.refl _ wr).alloc (Nat.le_refl _) _
      have hbw : Below w.heap.size w W2 := hb.out.trans (hbx.mono hsz)
      have hm2 : W2.cell? ⟨wr.heap.size, 0, none⟩ = some (.map (some w.heap.size)) := by rw [hW2]; exact (Boxed.new wr _ _).cell
      have hz2 : wr.heap.size < W2.heap.size := by rw [hW2]; simp
      have hs := Lib.hid (sorted_any hsort.out wr.heap.size w.heap.size of.length D W2 hz2 hm2 (own_below hown.out hbx) (by omega) (by omega))
      have hki := Lib.hid (keys_in (some w.heap.size) wr)
      replace hbw := Lib.hid hbw
      clear hm2 hown hbx hmm
      go_wp2_with fail
      refine hki.out.mono ?_
      rintro e w1 ⟨rfl, rfl⟩
      rw [← hW2]
      clear hki hW2
      go_wp2_with fail
      refine hs.out.mono ?_
      rintro e w3 ⟨v3, ts, rfl, hks, hown3, hb3⟩
      have hri : Hid (Rising of ts) := Lib.hid ⟨⟨hks.out.1.1.1, hks.out.2⟩, fun x => by rw [hks.out.1.1.2 x, hhas.out x]; simp⟩
      have htl : ts.length ≤ of.length := Nat.le_trans hks.out.1.2 hsize
      have hbw3 := Lib.hid (hbw.out.trans (hb3.out.mono hbw.out.size))
      have hrd3 := Lib.hid hown3.out.rd
      have hpos := Lib.hid (fun x (hx : x ∈ ts) => And.intro ((hri.out.2 x).1 hx).1 (hu.out x ((hri.out.2 x).1 hx).2))
      obtain ⟨ao3, cap3, rfl⟩ := hown3.out.len
      clear hs hown3 hks hhas hb3 hbw hb
      go_wp2_with fail
      go_loopw [6, 28] (fun v6 v28 wq => ∃ q : Nat, v28 = .int .i64 q ∧ q ≤ ts.length ∧ Hid (OwnR wq w3.heap.size v6 (normF (ts.take q))) ∧ Hid (Below w3.heap.size w3 wq)) (fun _ v28 _ => ts.length - (intOf v28).toNat)
      case atStart => exact ⟨0, rfl, Nat.zero_le _, Lib.hid (OwnR.nil _ _), Lib.hid (Below.refl _ _)⟩
      case round =>
        obtain ⟨q, rfl, hq, hown, hb⟩ := hrel
        have hsq := hb.out.size
        by_cases hlt2 : q < ts.length
        · obtain ⟨b3, o3, hao3, hbl3, hcell3⟩ := hrd3.out.at_pos (by omega)
          subst hao3
          have hcw3 := (hb.out.cell (p := ⟨b3, o3 + q, none⟩) hbl3).trans (num_cell hcell3 hlt2)
          have hxp := hpos.out _ (List.getElem_mem hlt2)
          have hst : normF (ts.take (q + 1)) = normStep (normF (ts.take q)) ts[q] := by rw [List.take_succ_eq_append_getElem hlt2, normF_snoc]
          have hol : (normF (ts.take q)).length ≤ q := by
            have := normF_len (ts.take q) []
            rw [List.length_take] at this
            show (List.foldl normStep [] (ts.take q)).length ≤ q
            simp at this; omega
          generalize ts[q] = x at hcw3 hxp hst
          generalize normF (ts.take q) = out at hown hst hol
          have hwr : IntKind.u64.wrap ((x : Int) - 1) = (x : Int) - 1 := by rw [IntKind.wrap_u64]; have := hxp.1; have := hxp.2; omega
          have hx1 : 1 ≤ x := hxp.1
          clear hcell3 hxp
          rcases List.eq_nil_or_concat out with rfl | ⟨i, ⟨a, b⟩, rfl⟩
          · have hst2 : Hid (normF (ts.take (q + 1)) = [] ++ [(x, x)]) := Lib.hid hst
            obtain ⟨a0, c0, rfl⟩ := hown.out.len
            have hown0 : Hid (OwnR wr w3.heap.size (.slice a0 0 c0) []) := hown
            clear hst
            go_wp2_with (at_builtin; refine wpList_append_range (W := wr) rfl _ _ rfl w3.heap.size (.slice a0 0 c0) [] x x rfl rfl hown0.out (by decide) hsq ?_)
            intro v6 w4 ho4 hb4
            have hB4 := Lib.hid (hb.out.trans hb4)
            have ho5 : Hid (OwnR w4 w3.heap.size v6 (normF (ts.take (q + 1)))) := Lib.hid (by rw [hst2.out]; exact ho4)
            clear ho4 hb4 hown hb
            go_wp2_with fail
            go_roundw
            case rel => exact ⟨q + 1, by go_num, by omega, ho5, hB4⟩
            case measure => simp [intOf] <;> omega
          · rw [List.concat_eq_append] at hown hst hol
            obtain ⟨g, cap6, hv6⟩ : ∃ g cap6, u6 = .slice (some ⟨g, 0, none⟩) (i.length + 1) cap6 := by
              rcases hown.out.2 with ⟨_, h0⟩ | ⟨g, cap6, cur, hv, _⟩
              · simp at h0
              · exact ⟨g, cap6, by rw [hv]; simp⟩
            subst hv6
            obtain ⟨cl, fl, hBg, hset⟩ := hown.out.at_last
            have hil : i.length + 1 ≤ 1000000 := by simp at hol; omega
            have hoc := hown.out.len
            by_cases hbx : b + 1 = x
            · have hst2 : Hid (normF (ts.take (q + 1)) = i ++ [(a, x)]) := Lib.hid (by rw [hst, normStep_on _ _ _ _ hbx])
              have hq1 : ((b : Int) == (x : Int) - 1) = true := beq_iff_eq.2 (by omega)
              have hs6 := Lib.hid (hset x)
              have hB6 := Lib.hid (hb.out.setCell (p := ⟨g, i.length * 2 + 1, none⟩) hBg (.int .u64 x))
              have hcl : w3.heap.size ≤ g := hBg
              clear hst hset hoc hbx hown hb
              have ho5 : Hid (OwnR (wr.setCell ⟨g, i.length * 2 + 1, none⟩ (.int .u64 x)) w3.heap.size (.slice (some ⟨g, 0, none⟩) (i.length + 1) cap6) (normF (ts.take (q + 1)))) := Lib.hid (by rw [hst2.out]; exact hs6.out)
              clear hs6 hst2
              generalize i.length = L at cl fl hil hB6 ho5 hol ⊢
              go_wp2_with fail
              go_roundw
              case rel => exact ⟨q + 1, by go_num, by omega, ho5, hB6⟩
              case measure => simp [intOf] <;> omega
            · have hst2 : Hid (normF (ts.take (q + 1)) = i ++ [(a, b)] ++ [(x, x)]) := Lib.hid (by rw [hst, normStep_new _ _ _ _ hbx])
              have hq1 : ((b : Int) == (x : Int) - 1) = false := beq_eq_false_iff_ne.2 (by omega)
              have hln : (i ++ [(a, b)]).length = i.length + 1 := by simp
              have hown0 : Hid (OwnR wr w3.heap.size (.slice (some ⟨g, 0, none⟩) (i.length + 1) cap6) (i ++ [(a, b)])) := hown
              generalize i ++ [(a, b)] = out at hown0 hst2 hln
              clear hst hset hoc hbx hown hol hBg
              generalize i.length = L at cl fl hil hown0 hln ⊢
              go_wp2_with (at_builtin; refine wpList_append_range (W := wr) rfl _ _ rfl w3.heap.size (.slice (some ⟨g, 0, none⟩) (L + 1) cap6) out x x rfl rfl hown0.out (by omega) hsq ?_)
              intro v6 w4 ho4 hb4
              have hB4 := Lib.hid (hb.out.trans hb4)
              have ho5 : Hid (OwnR w4 w3.heap.size v6 (normF (ts.take (q + 1)))) := Lib.hid (by rw [hst2.out]; exact ho4)
              clear ho4 hb4 hb
              go_wp2_with fail
              go_roundw
              case rel => exact ⟨q + 1, by go_num, by omega, ho5, hB4⟩
              case measure => simp [intOf] <;> omega
        · obtain rfl : q = ts.length := by omega
          rw [List.take_length] at hown
          have hz3 := hbw3.out.size
          go_wp2_with fail
          go_ret
          exact ⟨_, ts, rfl, hri, Lib.hid (OwnR.low hown.out hz3), Lib.hid (hbw3.out.trans (hb.out.mono hz3))⟩
end Go.Proofs.YtifpmcfadmmkiaaDoor
