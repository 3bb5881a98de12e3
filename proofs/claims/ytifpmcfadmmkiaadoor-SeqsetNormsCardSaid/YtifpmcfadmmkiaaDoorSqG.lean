/- The document's Has; Pick of both; the document's Same: walked. -/
import Derived.Test.YtifpmcfadmmkiaaDoorSqF
namespace Go.Proofs.YtifpmcfadmmkiaaDoor
open Go.RowKit

theorem inAny_eq (rs : List Rng) (most n : Nat) : rs.any (inOne most n) = hasL rs most n := by
  unfold hasL
  congr 1
  funext r
  exact inOne_eq most n r
theorem inOne_at (most n f t a b : Nat) (ha : a = if f = 0 then most else f) (hb : b = if t = 0 then most else t) : inOne most n (f, t) = ((decide (a ≤ n) && decide (n ≤ b)) || (decide (b ≤ n) && decide (n ≤ a))) := by
  unfold inOne
  dsimp only
  rw [← ha, ← hb]
set_option maxRecDepth 100000 in
set_option maxHeartbeats 8000000 in
theorem refHas_any (rs : List Rng) (v : Value) (most n : Nat) (w : World) (hl : rs.length ≤ 9223372036854775807) (hk : RangesIn w w.heap.size v rs) :
    Calls Tryd.prog 19 #[v, .int .u64 most, .int .u64 n] w fun e w' => e = .returned (.bool (hasL rs most n)) ∧ Below w.heap.size w w' := by
  have hk0 := Lib.hid hk
  obtain ⟨ao, cap, rfl, _⟩ := hk
  have hr := Lib.hid (inAny_eq rs most n)
  go_enter Tryd.func19, Tryd.ntmps19
  go_wp2_with fail
  go_loopw [7] (fun v7 wr => ∃ q : Nat, v7 = .int .i64 q ∧ q ≤ rs.length ∧ Hid ((rs.take q).any (inOne most n) = false) ∧ Hid (Below w.heap.size w wr)) (fun v7 _ => rs.length - (intOf v7).toNat)
  case atStart => exact ⟨0, rfl, Nat.zero_le _, Lib.hid rfl, Lib.hid (Below.refl _ _)⟩
  case round =>
    obtain ⟨q, rfl, hq, hno, hb⟩ := hrel
    by_cases hlt : q < rs.length
    · obtain ⟨ao', cap', hv, hk | ⟨b, o, hao, hbB, hcap, hcells⟩⟩ := hk0.out.later hb.out
      · rw [hk] at hlt; simp at hlt
      · cases hv
        subst hao
        have hc := hcells q hlt
        have hstep : (rs.take (q + 1)).any (inOne most n) = inOne most n rs[q] := by rw [List.take_succ_eq_append_getElem hlt, List.any_append, hno.out]; simp
        have hyes : inOne most n rs[q] = true → hasL rs most n = true := fun h => by rw [← hr.out]; exact List.any_eq_true.2 ⟨_, List.getElem_mem hlt, h⟩
        generalize rs[q] = k at hc hstep hyes
        obtain ⟨f, t⟩ := k
        obtain ⟨c0, c1⟩ := hc
        dsimp only at c0 c1
        clear hcells
        obtain ⟨x, hx⟩ : ∃ x, x = if f = 0 then most else f := ⟨_, rfl⟩
        obtain ⟨y, hy⟩ : ∃ y, y = if t = 0 then most else t := ⟨_, rfl⟩
        have hin := inOne_at most n f t x y hx hy
        have hbW := Lib.hid (fun m => below_drewN hb.out m)
        have hi0 : (0 : Int) ≤ (q : Int) := by omega
        have hi1 : (q : Int) < (rs.length : Int) := by omega
        have key : (inOne most n (f, t) = true ∧ (decide (x ≤ n) = true ∧ decide (n ≤ y) = true)) ∨ (inOne most n (f, t) = true ∧ (decide (x ≤ n) = true ∧ decide (n ≤ y) = false ∧ decide (y ≤ n) = true ∧ decide (n ≤ x) = true)) ∨
            (inOne most n (f, t) = false ∧ (decide (x ≤ n) = true ∧ decide (n ≤ y) = false ∧ decide (y ≤ n) = true ∧ decide (n ≤ x) = false)) ∨ (inOne most n (f, t) = true ∧ (decide (x ≤ n) = false ∧ decide (y ≤ n) = true ∧ decide (n ≤ x) = true)) ∨
            (inOne most n (f, t) = false ∧ (decide (x ≤ n) = false ∧ decide (y ≤ n) = false)) := by
          rw [hin]
          by_cases h1 : x ≤ n <;> by_cases h2 : n ≤ y <;> by_cases h3 : y ≤ n <;> by_cases h4 : n ≤ x <;> simp [h1, h2, h3, h4] <;> omega
        clear hin
        rcases key with ⟨hI, t1, t2⟩ | ⟨hI, t1, t2, t3, t4⟩ | ⟨hI, t1, t2, t3, t4⟩ | ⟨hI, t1, t3, t4⟩ | ⟨hI, t1, t3⟩
        all_goals (
          rw [hI] at hstep
          replace hstep := Lib.hid hstep
          first
          | replace hyes := Lib.hid (hyes hI)
          | clear hyes
          clear hI
          by_cases hf : f = 0 <;> by_cases ht : t = 0
          all_goals (
            first | rw [if_pos hf] at hx | rw [if_neg hf] at hx
            first | rw [if_pos ht] at hy | rw [if_neg ht] at hy
            subst x
            subst y
            have qf : ((f : Int) == 0) = decide (f = 0) := by
              by_cases h : f = 0
              · rw [decide_eq_true h]; exact beq_iff_eq.2 (by omega)
              · rw [decide_eq_false h]; exact beq_eq_false_iff_ne.2 (by omega)
            have qt : ((t : Int) == 0) = decide (t = 0) := by
              by_cases h : t = 0
              · rw [decide_eq_true h]; exact beq_iff_eq.2 (by omega)
              · rw [decide_eq_false h]; exact beq_eq_false_iff_ne.2 (by omega)
            first | rw [decide_eq_true hf] at qf | rw [decide_eq_false hf] at qf
            first | rw [decide_eq_true ht] at qt | rw [decide_eq_false ht] at qt
            replace hf := Lib.hid hf
            replace ht := Lib.hid ht
            go_wp2_with fail
            go_quiet (fail)
            go_wp2_with fail
            first
            | (go_ret
               exact ⟨by rw [hyes.out]; rfl, hbW.out _⟩)
            | (go_roundw
               case rel => exact ⟨q + 1, by go_num, by omega, hstep, Lib.hid (hbW.out _)⟩
               case measure => simp [intOf] <;> omega)
            | (exfalso
               rw [t1] at t3
               cases t3)))
    · obtain rfl : q = rs.length := by omega
      rw [List.take_length] at hno
      go_wp2_with fail
      go_ret
      exact ⟨by rw [← hr.out, hno.out]; rfl, hb.out⟩
/-- e returns numbers -/
def NumsRet (l : List Nat) (w : World) (e : Ending) (w' : World) : Prop := ∃ v, e = .returned v ∧ Hid (Rd w' v l.length (l.map encU)) ∧ Hid (Below w.heap.size w w')
theorem num_cell {w : World} {b o k : Nat} {l : List Nat} (hc : ∀ i u, (l.map encU)[i]? = some u → w.cell? ⟨b, o + i, none⟩ = some u) (hk : k < l.length) : w.cell? ⟨b, o + k, none⟩ = some (.int .u64 (l[k] : Nat)) := hc k _ (by rw [List.getElem?_map, List.getElem?_eq_getElem hk]; rfl)
set_option maxRecDepth 100000 in
set_option maxHeartbeats 4000000 in
theorem pick_any (rs : List Rng) (v vo : Value) (most : Nat) (of : List Nat) (w : World) (hl : rs.length ≤ 9223372036854775807) (hk : RangesIn w w.heap.size v rs) (hr : Rd w vo of.length (of.map encU)) (hol : (of.length + 1) * 8 ≤ 140737488355328) :
    Calls Tryd.prog 18 #[v, .int .u64 most, vo] w (NumsRet (of.filter (hasL rs most)) w) := by
  have hk0 := Lib.hid hk
  have hr0 := Lib.hid hr
  have hH := Lib.hid (fun W n (h : Below w.heap.size w W) => has_any rs v most n W hl (hk.on h))
  obtain ⟨ao, cap, rfl, -⟩ := hr
  clear hk
  go_enter Tryd.func18, Tryd.ntmps18
  go_wp2_with fail
  go_loopw [7, 12] (fun v7 v12 wr => ∃ (q : Nat) (out : List Nat), v12 = .int .i64 q ∧ q ≤ of.length ∧ out.length ≤ q ∧ Hid (out = (of.take q).filter (hasL rs most)) ∧ Hid (OwnN wr w.heap.size v7 out) ∧ Hid (Below w.heap.size w wr)) (fun _ v12 _ => of.length - (intOf v12).toNat)
  case atStart => exact ⟨0, [], rfl, Nat.zero_le _, Nat.le_refl _, Lib.hid rfl, Lib.hid (OwnN.nil _ _), Lib.hid (Below.refl _ _)⟩
  case round =>
    obtain ⟨q, out, rfl, hq, hoq, ho, hown, hb⟩ := hrel
    have hsz := hb.out.size
    by_cases hlt : q < of.length
    · obtain ⟨b, o, hao, hbl, hcell⟩ := hr0.out.at_pos (by omega)
      subst hao
      have hcw := (hb.out.cell (p := ⟨b, o + q, none⟩) hbl).trans (num_cell hcell hlt)
      have htk : (of.take (q + 1)).filter (hasL rs most) = out ++ (if hasL rs most of[q] = true then [of[q]] else []) := by
        rw [List.take_succ_eq_append_getElem hlt, List.filter_append, ← ho.out]
        cases h : hasL rs most of[q] <;> simp [h]
      have hcall := hH.out wr of[q] hb.out
      generalize of[q] = x at hcw htk hcall
      clear hcell
      cases hB : hasL rs most x with
      | false =>
        rw [hB] at hcall htk
        have htk2 : Hid (out = (of.take (q + 1)).filter (hasL rs most)) := Lib.hid (by rw [htk]; simp)
        replace hcall := Lib.hid hcall
        clear hB htk
        go_wp2_with fail
        refine hcall.out.mono ?_
        rintro e w2 ⟨rfl, hb2⟩
        have hB2 := Lib.hid (hb.out.trans (hb2.mono hb.out.size))
        have ho2 := Lib.hid (hown.out.below hb2)
        clear hcall hb2
        go_wp2_with fail
        go_roundw
        case rel => exact ⟨q + 1, out, by go_num, by omega, by omega, htk2, ho2, hB2⟩
        case measure => simp [intOf] <;> omega
      | true =>
        rw [hB] at hcall htk
        have htk2 : Hid (out ++ [x] = (of.take (q + 1)).filter (hasL rs most)) := Lib.hid (by rw [htk]; simp)
        replace hcall := Lib.hid hcall
        clear hB htk
        go_wp2_with fail
        refine hcall.out.mono ?_
        rintro e w2 ⟨rfl, hb2⟩
        have hB2 := Lib.hid (hb.out.trans (hb2.mono hb.out.size))
        have ho2 := Lib.hid (hown.out.below hb2)
        have hz2 := hB2.out.size
        clear hcall hb2
        go_wp2_with (at_builtin; refine wpList_append_num (W := w2) rfl _ _ rfl w.heap.size u7 out x rfl rfl ho2.out (by omega) hz2 ?_)
        intro v7 w3 ho3 hb3
        have hB3 := Lib.hid (hB2.out.trans hb3)
        replace ho3 := Lib.hid ho3
        clear ho2 hb3 hB2
        go_wp2_with fail
        go_roundw
        case rel => exact ⟨q + 1, out ++ [x], by go_num, by omega, by simp; omega, htk2, ho3, hB3⟩
        case measure => simp [intOf] <;> omega
    · obtain rfl : q = of.length := by omega
      rw [List.take_length] at ho
      go_wp2_with fail
      go_ret
      refine ⟨_, rfl, Lib.hid ?_, hb⟩
      rw [← ho.out]
      exact hown.out.rd
set_option maxRecDepth 100000 in
set_option maxHeartbeats 4000000 in
theorem refPick_any (rs : List Rng) (v vo : Value) (most : Nat) (of : List Nat) (w : World) (hl : rs.length ≤ 9223372036854775807) (hk : RangesIn w w.heap.size v rs) (hr : Rd w vo of.length (of.map encU)) (hol : (of.length + 1) * 8 ≤ 140737488355328) :
    Calls Tryd.prog 20 #[v, .int .u64 most, vo] w (NumsRet (of.filter (hasL rs most)) w) := by
  have hk0 := Lib.hid hk
  have hr0 := Lib.hid hr
  have hH := Lib.hid (fun W n (h : Below w.heap.size w W) => refHas_any rs v most n W hl (hk.on h))
  obtain ⟨ao, cap, rfl, -⟩ := hr
  clear hk
  go_enter Tryd.func20, Tryd.ntmps20
  go_wp2_with fail
  go_loopw [7, 8] (fun v7 v12 wr => ∃ (q : Nat) (out : List Nat), v12 = .int .i64 q ∧ q ≤ of.length ∧ out.length ≤ q ∧ Hid (out = (of.take q).filter (hasL rs most)) ∧ Hid (OwnN wr w.heap.size v7 out) ∧ Hid (Below w.heap.size w wr)) (fun _ v12 _ => of.length - (intOf v12).toNat)
  case atStart => exact ⟨0, [], rfl, Nat.zero_le _, Nat.le_refl _, Lib.hid rfl, Lib.hid (OwnN.nil _ _), Lib.hid (Below.refl _ _)⟩
  case round =>
    obtain ⟨q, out, rfl, hq, hoq, ho, hown, hb⟩ := hrel
    have hsz := hb.out.size
    by_cases hlt : q < of.length
    · obtain ⟨b, o, hao, hbl, hcell⟩ := hr0.out.at_pos (by omega)
      subst hao
      have hcw := (hb.out.cell (p := ⟨b, o + q, none⟩) hbl).trans (num_cell hcell hlt)
      have hcl := Lib.hid (fun W (h : Below wr.heap.size wr W) => (h.cell (p := ⟨b, o + q, none⟩) (Nat.lt_of_lt_of_le hbl hsz)).trans hcw)
      have htk : (of.take (q + 1)).filter (hasL rs most) = out ++ (if hasL rs most of[q] = true then [of[q]] else []) := by
        rw [List.take_succ_eq_append_getElem hlt, List.filter_append, ← ho.out]
        cases h : hasL rs most of[q] <;> simp [h]
      have hcall := hH.out wr of[q] hb.out
      generalize of[q] = x at hcw htk hcall hcl
      clear hcell
      cases hB : hasL rs most x with
      | false =>
        rw [hB] at hcall htk
        have htk2 : Hid (out = (of.take (q + 1)).filter (hasL rs most)) := Lib.hid (by rw [htk]; simp)
        replace hcall := Lib.hid hcall
        clear hB htk
        go_wp2_with fail
        refine hcall.out.mono ?_
        rintro e w2 ⟨rfl, hb2⟩
        have hB2 := Lib.hid (hb.out.trans (hb2.mono hb.out.size))
        have ho2 := Lib.hid (hown.out.below hb2)
        clear hcall hb2
        go_wp2_with fail
        go_roundw
        case rel => exact ⟨q + 1, out, by go_num, by omega, by omega, htk2, ho2, hB2⟩
        case measure => simp [intOf] <;> omega
      | true =>
        rw [hB] at hcall htk
        have htk2 : Hid (out ++ [x] = (of.take (q + 1)).filter (hasL rs most)) := Lib.hid (by rw [htk]; simp)
        replace hcall := Lib.hid hcall
        clear hB htk
        go_wp2_with fail
        refine hcall.out.mono ?_
        rintro e w2 ⟨rfl, hb2⟩
        have hB2 := Lib.hid (hb.out.trans (hb2.mono hb.out.size))
        have ho2 := Lib.hid (hown.out.below hb2)
        have hz2 := hB2.out.size
        have hcw2 := hcl.out w2 hb2
        clear hcall hb2
        go_wp2_with (at_builtin; refine wpList_append_num (W := w2) rfl _ _ rfl w.heap.size u7 out x rfl rfl ho2.out (by omega) hz2 ?_)
        intro v7 w3 ho3 hb3
        have hB3 := Lib.hid (hB2.out.trans hb3)
        replace ho3 := Lib.hid ho3
        clear ho2 hb3 hB2
        go_wp2_with fail
        go_roundw
        case rel => exact ⟨q + 1, out ++ [x], by go_num, by omega, by simp; omega, htk2, ho3, hB3⟩
        case measure => simp [intOf] <;> omega
    · obtain rfl : q = of.length := by omega
      rw [List.take_length] at ho
      go_wp2_with fail
      go_ret
      refine ⟨_, rfl, Lib.hid ?_, hb⟩
      rw [← ho.out]
      exact hown.out.rd
set_option maxRecDepth 100000 in
set_option maxHeartbeats 4000000 in
theorem sameNums_any (va vb : Value) (a b : List Nat) (w : World) (ha : Rd w va a.length (a.map encU)) (hb : Rd w vb b.length (b.map encU)) (hl : a.length ≤ 9223372036854775807) :
    Calls Tryd.prog 15 #[va, vb] w fun e w' => e = .returned (.bool (decide (a = b))) ∧ Below w.heap.size w w' := by
  have ha0 := Lib.hid ha
  have hb0 := Lib.hid hb
  obtain ⟨ao, cap, rfl, -⟩ := ha
  obtain ⟨ao2, cap2, rfl, -⟩ := hb
  by_cases hlen : a.length = b.length
  · go_enter Tryd.func15, Tryd.ntmps15
    rw [← hlen]
    have hne : ((a.length : Int) != (a.length : Int)) = false := by simp
    have hlen0 := Lib.hid hlen
    clear hlen
    go_wp2_with fail
    go_loopw [5] (fun v5 wr => ∃ q : Nat, v5 = .int .i64 q ∧ q ≤ a.length ∧ Hid (a.take q = b.take q) ∧ Hid (Below w.heap.size w wr)) (fun v5 _ => a.length - (intOf v5).toNat)
    case atStart => exact ⟨0, rfl, Nat.zero_le _, Lib.hid rfl, Lib.hid (Below.refl _ _)⟩
    case round =>
      obtain ⟨q, rfl, hq, heq, hbl⟩ := hrel
      by_cases hlt : q < a.length
      · have hlt2 : q < b.length := by rw [← hlen0.out]; exact hlt
        obtain ⟨b1, o1, hao, hbl1, hcell1⟩ := ha0.out.at_pos (by omega)
        obtain ⟨b2, o2, hao2, hbl2, hcell2⟩ := hb0.out.at_pos (by omega)
        subst hao hao2
        have c1 := (hbl.out.cell (p := ⟨b1, o1 + q, none⟩) hbl1).trans (num_cell hcell1 hlt)
        have c2 := (hbl.out.cell (p := ⟨b2, o2 + q, none⟩) hbl2).trans (num_cell hcell2 hlt2)
        have hstep : a[q] = b[q] → a.take (q + 1) = b.take (q + 1) := fun h => by rw [List.take_succ_eq_append_getElem hlt, List.take_succ_eq_append_getElem hlt2, heq.out, h]
        have hdiff : a[q] ≠ b[q] → decide (a = b) = false := fun h => decide_eq_false (fun e => h (by subst e; rfl))
        generalize a[q] = x at c1 hstep hdiff
        generalize b[q] = y at c2 hstep hdiff
        clear hcell1 hcell2 hlt2
        have hbW := Lib.hid (fun m => below_drewN hbl.out m)
        have hi0 : (0 : Int) ≤ (q : Int) := by omega
        have hi1 : (q : Int) < (a.length : Int) := by omega
        by_cases hxy : x = y
        · have hs := Lib.hid (hstep hxy)
          have hn : ((x : Int) != (y : Int)) = false := by rw [hxy]; simp
          clear hstep hdiff hxy
          go_wp2_with fail
          go_quiet (fail)
          go_wp2_with fail
          go_roundw
          case rel => exact ⟨q + 1, by go_num, by omega, hs, Lib.hid (hbW.out _)⟩
          case measure => simp [intOf] <;> omega
        · have hd := Lib.hid (hdiff hxy)
          have hn : ((x : Int) != (y : Int)) = true := by rw [bne_iff_ne]; omega
          clear hstep hdiff hxy
          go_wp2_with fail
          go_quiet (fail)
          go_wp2_with fail
          go_ret
          exact ⟨by rw [hd.out]; rfl, hbW.out _⟩
      · obtain rfl : q = a.length := by omega
        have hd : Hid (decide (a = b) = true) := Lib.hid (decide_eq_true (by
          have h := heq.out
          rw [List.take_length] at h
          rw [h, hlen0.out, List.take_length]))
        go_wp2_with fail
        go_ret
        exact ⟨by rw [hd.out]; rfl, hbl.out⟩
  · have hn : ((a.length : Int) != (b.length : Int)) = true := by rw [bne_iff_ne]; omega
    have hd : Hid (decide (a = b) = false) := Lib.hid (decide_eq_false (fun e => hlen (by rw [e])))
    clear hlen
    go_enter Tryd.func15, Tryd.ntmps15
    go_wp2_with fail
    go_ret
    exact ⟨by rw [hd.out]; rfl, Below.refl _ _⟩
end Go.Proofs.YtifpmcfadmmkiaaDoor
