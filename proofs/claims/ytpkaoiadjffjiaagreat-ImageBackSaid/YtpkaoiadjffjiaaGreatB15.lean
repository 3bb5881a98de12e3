/- image's list, whatever the things: walked. (written by tools/gen_ImD.py) A state as bytes, and back: the plain law of images. -/
import Derived.Test.YtpkaoiadjffjiaaGreatB13
import Derived.Test.YtpkaoiadjffjiaaGreatB02
import Derived.Test.YtpkaoiadjffjiaaGreatB04
import Derived.Lib.Join
import Derived.Laws.EntriesVeiled
import Derived.Test.YtpkaoiadjffjiaaGreatB05
namespace Go.Proofs.YtpkaoiadjffjiaaGreat
set_option linter.unusedSimpArgs false
open Go.RowKit
attribute [local go_sem ↓] Go.wp_at_zero Go.wp_at_succ

theorem join_none (l : List (List UInt8)) : Lib.join l [] = l.flatten := by
  cases l with
  | nil => rfl
  | cons x r => rw [Lib.join_cons, Lib.joinTail]; simp
/-- strings.Join of texts of the call's own, with nothing between -/
theorem join_any (v : Value) (l : List (List UInt8)) (w : World) (hr : Rd w v l.length (l.map encStr)) (hl : l.length ≤ 1000000) (hj : l.flatten.length ≤ 140737488355328) : Calls Tryz.prog 48 #[v, .string ⟨#[]⟩] w (RetS l.flatten w) := by
  obtain ⟨ao, cap, rfl, hc⟩ := hr
  by_cases h0 : l.length = 0
  · rw [h0]
    have e : l = [] := List.length_eq_zero_iff.1 h0
    exact (Tryz.strings_Join_none ao cap ⟨#[]⟩ w).mono fun _ _ h => ⟨_, h.1, Lib.hid (by rw [e]; rfl), Lib.hid (by rw [h.2]; exact Below.refl _ _)⟩
  · rcases hc with hc | ⟨b, o, rfl, hb, hcap, hcell⟩
    · exact absurd hc h0
    · have e : (l.map mkB).map (fun s : ByteArray => s.data.toList) = l := by rw [List.map_map]; exact (List.map_congr_left (fun x _ => mkB_list x)).trans (List.map_id _)
      have hs : ([] : List UInt8) = (⟨#[]⟩ : ByteArray).data.toList := rfl
      have h := Tryz.strings_Join b o cap (l.map mkB) ⟨#[]⟩ w (fun j x hx => by
        rw [List.getElem?_map] at hx
        cases hj : l[j]? with
        | none => rw [hj] at hx; cases hx
        | some y =>
          rw [hj] at hx
          exact hcell j _ (by rw [List.getElem?_map, hj]; simp only [Option.map_some] at hx ⊢; rw [← Option.some.inj hx]; rfl)) hb (by rw [List.length_map]; omega) (by rw [List.length_map]; exact hcap) (by rw [e, ← hs, join_none]; exact hj)
      rw [List.length_map] at h
      exact h.mono fun _ _ hh => ⟨_, hh.1, Lib.hid (by rw [toList_mk, e, ← hs, join_none]), Lib.hid hh.2⟩
theorem flat_take {α : Type} (f : α → List UInt8) (l : List α) (n : List UInt8) : (n :: l.map f).flatten = n ++ l.flatMap f := by
  rw [List.flatten_cons, List.flatMap_def]
theorem str_mk {u : ByteArray} {l : List UInt8} (h : u.data.toList = l) : u = mkB l := by subst h; rfl
theorem len64 {n : Nat} (h : n ≤ 1000) : IntKind.u64.wrap (n : Int) = (n : Int) := by rw [IntKind.wrap_u64]; omega
set_option maxRecDepth 100000 in
set_option maxHeartbeats 8000000 in
theorem list_string_any (f : List UInt8 → List UInt8) (v : Value) (l : List (List UInt8)) (W : World) (hr : Rd W v l.length (flT.cells l)) (hlen : l.length ≤ 1000)
    (hone : ∀ y ∈ l, ∀ w, Below W.heap.size W w → Calls Tryz.prog 49 #[.string (mkB y)] w (RetS (f y) w)) (hj : (listL f l).length ≤ 140737488355328) :
    Calls Tryz.prog 63 #[v, .func (.func 49) #[] #[]] W (RetS (listL f l) W) := by
  have hr0 := Lib.hid (fun (w : World) (h : Below W.heap.size W w) => hr.below h)
  obtain ⟨ao, cap, rfl, -⟩ := hr
  have hw := len64 hlen
  have hnum := Lib.hid (num_any l.length (by omega) W)
  replace hone := Lib.hid hone
  replace hj := Lib.hid hj
  go_enter Tryz.func63, Tryz.ntmps63
  go_wp2_with fail
  refine hnum.out.mono ?_
  rintro e w1 ⟨u, rfl, hu, hb1⟩
  have hz0 : Zoo W (w1.alloc (.cells #[.string u] 9)) [flT.row (.slice (some ⟨w1.heap.size, 0, none⟩) 1 1) [numL l.length]] := by
    have h1 := ((Zoo.nil W).below hb1.out)
    have hs : Value.string u = encStr (numL l.length) := by rw [← hu.out]
    have h2 := RT.Own.one flT w1 (numL l.length) w1.heap.size rfl
    rw [hs]
    exact Zoo.newRow h1 ((Below.refl _ _).alloc (Nat.le_refl _) _) h2 (fun g hg => by cases hg; exact Nat.le_refl _)
  replace hz0 := Lib.hid hz0
  generalize hvo : Value.slice (some ⟨w1.heap.size, 0, none⟩) 1 1 = vo0 at hz0
  clear hnum hb1 hu
  go_upto_region 2 with fail
  try rw [hvo]
  clear hvo
  generalize w1.alloc (.cells #[.string u] 9) = w2 at hz0 ⊢
  go_wp2_with fail
  go_loopw [5, 7, 15] (fun v5 _ v15 wr => ∃ q : Nat, v15 = .int .i64 q ∧ q ≤ l.length ∧ Hid (Zoo W wr [flT.row v5 (numL l.length :: (l.map f).take q)])) (fun _ _ v15 _ => l.length - (intOf v15).toNat)
  case atStart => exact ⟨0, rfl, Nat.zero_le _, hz0⟩
  case round =>
  obtain ⟨q, rfl, hq, hz⟩ := hrel
  by_cases hlt : q < l.length
  · have hl1 : (q : Int) < (l.length : Int) := by omega
    obtain ⟨b, o, cap', hv, hcap, hbl, hcl⟩ := flT.rd_cells (hr0.out wr hz.out.bel) hlt
    injection hv with q1 q2 q3
    subst q1 q3
    have hk : ∀ r u, (flT.enc l[q])[r]? = some u → wr.cell? ⟨b, o + q, none⟩ = some u := fun r u hu => by
      have hr : r = 0 := by have := (List.getElem?_eq_some_iff.1 hu).1; rw [flT.len] at this; exact Nat.lt_one_iff.1 this
      subst hr
      have := hcl 0 u hu
      rwa [show o + (q * flT.K + 0) = o + q from by show o + (q * 1 + 0) = o + q; omega] at this
    have c0 : wr.cell? ⟨b, o + q, none⟩ = some (.string (mkB l[q])) := hk 0 _ rfl
    have hon := Lib.hid (hone.out l[q] (List.getElem_mem hlt))
    have hnx : Hid ((l.map f).take (q + 1) = (l.map f).take q ++ [f l[q]]) := Lib.hid (by rw [List.take_succ_eq_append_getElem (by rw [List.length_map]; exact hlt), List.getElem_map])
    have hll : ((l.map f).take q).length ≤ 1000 := by rw [List.length_take, List.length_map]; omega
    clear hk hcl hbl
    generalize f l[q] = tx at hon hnx
    generalize l[q] = y at c0 hon
    have hcall := Lib.hid (hon.out wr hz.out.bel)
    go_wp2_with fail
    refine hcall.out.mono ?_
    rintro e w3 ⟨u2, rfl, hu2, hb3⟩
    have hz3 := hz.out.below hb3.out
    clear hcall c0 hz
    obtain rfl : u2 = mkB tx := str_mk hu2.out
    have hzA := Zoo.alloc hz3 (.cells (flT.enc tx).toArray 9)
    have hown1 := Lib.hid (RT.Own.one flT w3 tx w3.heap.size rfl).rd
    obtain ⟨F, ⟨ho1, hF⟩, -, hact⟩ := hzA.act 0 (flT.row u5 (numL l.length :: (l.map f).take q)) rfl
    replace ho1 := Lib.hid ho1
    replace hF := Lib.hid hF
    replace hact := Lib.hid hact
    clear hzA hz3 hu2
    replace hll := Lib.hid hll
    go_wp2_with (at_builtin; go_loud (refine flT.wpList_append rfl (.tmp 19) (.tmp 23) rfl _ _ (numL l.length :: (l.map f).take q) [tx] rfl rfl ho1.out hown1.out (by rw [List.length_singleton, List.length_cons]; have := hll.out; omega) ?_))
    intro v8 w8 ho8 hg8 hat8
    have hz8 := hact.out (flT.row v8 (numL l.length :: (l.map f).take (q + 1))) (fun k => v8.ownBlock = some k) w8 ⟨by rw [hnx.out]; exact ho8, fun _ => Iff.rfl⟩ (grows_row hF.out hg8 (fun g hg => (hat8 g hg).imp_right (fun h => by simpa using h)))
    replace hz8 := Lib.hid hz8
    clear hact ho8 hg8 hat8 ho1 hF hown1
    go_wp2_with fail
    go_roundw
    case rel => exact ⟨q + 1, by go_num, by omega, hz8⟩
    case measure => simp [intOf] <;> omega
  · obtain rfl : q = l.length := by omega
    rw [List.take_of_length_le (by rw [List.length_map]; exact Nat.le_refl _)] at hz
    have hfl := flat_take f l (numL l.length)
    have hown := (hz.out.own 0 rfl).rd
    rw [flT_cells] at hown
    have hjn := join_any u5 (numL l.length :: l.map f) wr hown (by rw [List.length_cons, List.length_map]; omega) (by rw [hfl]; exact hj.out)
    rw [hfl] at hjn
    replace hjn := Lib.hid hjn
    clear hown hfl
    go_wp2_with fail
    refine hjn.out.mono ?_
    rintro e w3 ⟨u2, rfl, hu2, hb3⟩
    have hbE := Lib.hid (hz.out.below hb3.out).bel
    go_wp2_with fail
    go_ret
    exact ⟨_, rfl, hu2, hbE⟩
set_option maxRecDepth 100000 in
set_option maxHeartbeats 8000000 in
theorem list_letter_any (f : LtV → List UInt8) (v : Value) (l : List (LtV)) (W : World) (hr : Rd W v l.length (ltT.cells l)) (hlen : l.length ≤ 1000)
    (hone : ∀ y ∈ l, ∀ w, Below W.heap.size W w → Calls Tryz.prog 51 #[.agg #[.int .u64 y.x.uid, .slice y.a y.x.flags.length y.c, .int .u64 y.x.mod, .string y.x.hash, .int .u64 y.x.size]] w (RetS (f y) w)) (hj : (listL f l).length ≤ 140737488355328) :
    Calls Tryz.prog 50 #[v, .func (.func 51) #[] #[]] W (RetS (listL f l) W) := by
  have hr0 := Lib.hid (fun (w : World) (h : Below W.heap.size W w) => hr.below h)
  obtain ⟨ao, cap, rfl, -⟩ := hr
  have hw := len64 hlen
  have hnum := Lib.hid (num_any l.length (by omega) W)
  replace hone := Lib.hid hone
  replace hj := Lib.hid hj
  go_enter Tryz.func50, Tryz.ntmps50
  go_wp2_with fail
  refine hnum.out.mono ?_
  rintro e w1 ⟨u, rfl, hu, hb1⟩
  have hz0 : Zoo W (w1.alloc (.cells #[.string u] 9)) [flT.row (.slice (some ⟨w1.heap.size, 0, none⟩) 1 1) [numL l.length]] := by
    have h1 := ((Zoo.nil W).below hb1.out)
    have hs : Value.string u = encStr (numL l.length) := by rw [← hu.out]
    have h2 := RT.Own.one flT w1 (numL l.length) w1.heap.size rfl
    rw [hs]
    exact Zoo.newRow h1 ((Below.refl _ _).alloc (Nat.le_refl _) _) h2 (fun g hg => by cases hg; exact Nat.le_refl _)
  replace hz0 := Lib.hid hz0
  generalize hvo : Value.slice (some ⟨w1.heap.size, 0, none⟩) 1 1 = vo0 at hz0
  clear hnum hb1 hu
  go_upto_region 2 with fail
  try rw [hvo]
  clear hvo
  generalize w1.alloc (.cells #[.string u] 9) = w2 at hz0 ⊢
  go_wp2_with fail
  go_loopw [5, 7, 15] (fun v5 _ v15 wr => ∃ q : Nat, v15 = .int .i64 q ∧ q ≤ l.length ∧ Hid (Zoo W wr [flT.row v5 (numL l.length :: (l.map f).take q)])) (fun _ _ v15 _ => l.length - (intOf v15).toNat)
  case atStart => exact ⟨0, rfl, Nat.zero_le _, hz0⟩
  case round =>
  obtain ⟨q, rfl, hq, hz⟩ := hrel
  by_cases hlt : q < l.length
  · have hl1 : (q : Int) < (l.length : Int) := by omega
    obtain ⟨b, o, cap', hv, hcap, hbl, hcl⟩ := ltT.rd_cells (hr0.out wr hz.out.bel) hlt
    injection hv with q1 q2 q3
    subst q1 q3
    have hk : ∀ r u, (ltT.enc l[q])[r]? = some u → wr.cell? ⟨b, o + q * 5 + r, none⟩ = some u := fun r u hu => by
      rw [Nat.add_assoc]
      exact hcl r u hu
    have c0 : wr.cell? ⟨b, o + q * 5, none⟩ = some (.int .u64 l[q].x.uid) := hk 0 _ rfl
    have c1 : wr.cell? ⟨b, o + q * 5 + 1, none⟩ = some (.slice l[q].a l[q].x.flags.length l[q].c) := hk 1 _ rfl
    have c2 : wr.cell? ⟨b, o + q * 5 + 2, none⟩ = some (.int .u64 l[q].x.mod) := hk 2 _ rfl
    have c3 : wr.cell? ⟨b, o + q * 5 + 3, none⟩ = some (.string l[q].x.hash) := hk 3 _ rfl
    have c4 : wr.cell? ⟨b, o + q * 5 + 4, none⟩ = some (.int .u64 l[q].x.size) := hk 4 _ rfl
    have hon := Lib.hid (hone.out l[q] (List.getElem_mem hlt))
    have hnx : Hid ((l.map f).take (q + 1) = (l.map f).take q ++ [f l[q]]) := Lib.hid (by rw [List.take_succ_eq_append_getElem (by rw [List.length_map]; exact hlt), List.getElem_map])
    have hll : ((l.map f).take q).length ≤ 1000 := by rw [List.length_take, List.length_map]; omega
    clear hk hcl hbl
    generalize f l[q] = tx at hon hnx
    generalize l[q] = y at c0 c1 c2 c3 c4 hon
    obtain ⟨⟨y0, fl, y2, y3, y4⟩, ya, yc⟩ := y
    dsimp only at c0 c1 c2 c3 c4 hon
    generalize fl.length = yl at c1 hon
    have hz2 := Lib.hid (hz.out.newBox #[.int .u64 y0, .slice ya yl yc, .int .u64 y2, .string y3, .int .u64 y4] 45)
    have hcall := Lib.hid (hon.out (wr.alloc (.cells #[.int .u64 y0, .slice ya yl yc, .int .u64 y2, .string y3, .int .u64 y4] 45)) hz2.out.bel)
    go_wp2_with fail
    refine hcall.out.mono ?_
    rintro e w3 ⟨u2, rfl, hu2, hb3⟩
    have hz3 := (hz2.out.below hb3.out).tail
    clear hcall c0 c1 c2 c3 c4 hz hz2
    obtain rfl : u2 = mkB tx := str_mk hu2.out
    have hzA := Zoo.alloc hz3 (.cells (flT.enc tx).toArray 9)
    have hown1 := Lib.hid (RT.Own.one flT w3 tx w3.heap.size rfl).rd
    obtain ⟨F, ⟨ho1, hF⟩, -, hact⟩ := hzA.act 0 (flT.row u5 (numL l.length :: (l.map f).take q)) rfl
    replace ho1 := Lib.hid ho1
    replace hF := Lib.hid hF
    replace hact := Lib.hid hact
    clear hzA hz3 hu2
    replace hll := Lib.hid hll
    go_wp2_with (at_builtin; go_loud (refine flT.wpList_append rfl (.tmp 19) (.tmp 23) rfl _ _ (numL l.length :: (l.map f).take q) [tx] rfl rfl ho1.out hown1.out (by rw [List.length_singleton, List.length_cons]; have := hll.out; omega) ?_))
    intro v8 w8 ho8 hg8 hat8
    have hz8 := hact.out (flT.row v8 (numL l.length :: (l.map f).take (q + 1))) (fun k => v8.ownBlock = some k) w8 ⟨by rw [hnx.out]; exact ho8, fun _ => Iff.rfl⟩ (grows_row hF.out hg8 (fun g hg => (hat8 g hg).imp_right (fun h => by simpa using h)))
    replace hz8 := Lib.hid hz8
    clear hact ho8 hg8 hat8 ho1 hF hown1
    go_wp2_with fail
    go_roundw
    case rel => exact ⟨q + 1, by go_num, by omega, hz8⟩
    case measure => simp [intOf] <;> omega
  · obtain rfl : q = l.length := by omega
    rw [List.take_of_length_le (by rw [List.length_map]; exact Nat.le_refl _)] at hz
    have hfl := flat_take f l (numL l.length)
    have hown := (hz.out.own 0 rfl).rd
    rw [flT_cells] at hown
    have hjn := join_any u5 (numL l.length :: l.map f) wr hown (by rw [List.length_cons, List.length_map]; omega) (by rw [hfl]; exact hj.out)
    rw [hfl] at hjn
    replace hjn := Lib.hid hjn
    clear hown hfl
    go_wp2_with fail
    refine hjn.out.mono ?_
    rintro e w3 ⟨u2, rfl, hu2, hb3⟩
    have hbE := Lib.hid (hz.out.below hb3.out).bel
    go_wp2_with fail
    go_ret
    exact ⟨_, rfl, hu2, hbE⟩
set_option maxRecDepth 100000 in
set_option maxHeartbeats 8000000 in
theorem list_box_any (f : BxV → List UInt8) (v : Value) (l : List (BxV)) (W : World) (hr : Rd W v l.length (bxT.cells l)) (hlen : l.length ≤ 1000)
    (hone : ∀ y ∈ l, ∀ w, Below W.heap.size W w → Calls Tryz.prog 16 #[.agg #[.string y.name, .int .u64 y.validity, .int .u64 y.next, .int .u64 y.high, .slice y.a y.rows.length y.c]] w (RetS (f y) w)) (hj : (listL f l).length ≤ 140737488355328) :
    Calls Tryz.prog 15 #[v, .func (.func 16) #[] #[]] W (RetS (listL f l) W) := by
  have hr0 := Lib.hid (fun (w : World) (h : Below W.heap.size W w) => hr.below h)
  obtain ⟨ao, cap, rfl, -⟩ := hr
  have hw := len64 hlen
  have hnum := Lib.hid (num_any l.length (by omega) W)
  replace hone := Lib.hid hone
  replace hj := Lib.hid hj
  go_enter Tryz.func15, Tryz.ntmps15
  go_wp2_with fail
  refine hnum.out.mono ?_
  rintro e w1 ⟨u, rfl, hu, hb1⟩
  have hz0 : Zoo W (w1.alloc (.cells #[.string u] 9)) [flT.row (.slice (some ⟨w1.heap.size, 0, none⟩) 1 1) [numL l.length]] := by
    have h1 := ((Zoo.nil W).below hb1.out)
    have hs : Value.string u = encStr (numL l.length) := by rw [← hu.out]
    have h2 := RT.Own.one flT w1 (numL l.length) w1.heap.size rfl
    rw [hs]
    exact Zoo.newRow h1 ((Below.refl _ _).alloc (Nat.le_refl _) _) h2 (fun g hg => by cases hg; exact Nat.le_refl _)
  replace hz0 := Lib.hid hz0
  generalize hvo : Value.slice (some ⟨w1.heap.size, 0, none⟩) 1 1 = vo0 at hz0
  clear hnum hb1 hu
  go_upto_region 2 with fail
  try rw [hvo]
  clear hvo
  generalize w1.alloc (.cells #[.string u] 9) = w2 at hz0 ⊢
  go_wp2_with fail
  go_loopw [5, 7, 15] (fun v5 _ v15 wr => ∃ q : Nat, v15 = .int .i64 q ∧ q ≤ l.length ∧ Hid (Zoo W wr [flT.row v5 (numL l.length :: (l.map f).take q)])) (fun _ _ v15 _ => l.length - (intOf v15).toNat)
  case atStart => exact ⟨0, rfl, Nat.zero_le _, hz0⟩
  case round =>
  obtain ⟨q, rfl, hq, hz⟩ := hrel
  by_cases hlt : q < l.length
  · have hl1 : (q : Int) < (l.length : Int) := by omega
    obtain ⟨b, o, cap', hv, hcap, hbl, hcl⟩ := bxT.rd_cells (hr0.out wr hz.out.bel) hlt
    injection hv with q1 q2 q3
    subst q1 q3
    have hk : ∀ r u, (bxT.enc l[q])[r]? = some u → wr.cell? ⟨b, o + q * 5 + r, none⟩ = some u := fun r u hu => by
      rw [Nat.add_assoc]
      exact hcl r u hu
    have c0 : wr.cell? ⟨b, o + q * 5, none⟩ = some (.string l[q].name) := hk 0 _ rfl
    have c1 : wr.cell? ⟨b, o + q * 5 + 1, none⟩ = some (.int .u64 l[q].validity) := hk 1 _ rfl
    have c2 : wr.cell? ⟨b, o + q * 5 + 2, none⟩ = some (.int .u64 l[q].next) := hk 2 _ rfl
    have c3 : wr.cell? ⟨b, o + q * 5 + 3, none⟩ = some (.int .u64 l[q].high) := hk 3 _ rfl
    have c4 : wr.cell? ⟨b, o + q * 5 + 4, none⟩ = some (.slice l[q].a l[q].rows.length l[q].c) := hk 4 _ rfl
    have hon := Lib.hid (hone.out l[q] (List.getElem_mem hlt))
    have hnx : Hid ((l.map f).take (q + 1) = (l.map f).take q ++ [f l[q]]) := Lib.hid (by rw [List.take_succ_eq_append_getElem (by rw [List.length_map]; exact hlt), List.getElem_map])
    have hll : ((l.map f).take q).length ≤ 1000 := by rw [List.length_take, List.length_map]; omega
    clear hk hcl hbl
    generalize f l[q] = tx at hon hnx
    generalize l[q] = y at c0 c1 c2 c3 c4 hon
    obtain ⟨y0, y1, y2, y3, fl, ya, yc⟩ := y
    dsimp only at c0 c1 c2 c3 c4 hon
    generalize fl.length = yl at c4 hon
    have hz2 := Lib.hid (hz.out.newBox #[.string y0, .int .u64 y1, .int .u64 y2, .int .u64 y3, .slice ya yl yc] 40)
    have hcall := Lib.hid (hon.out (wr.alloc (.cells #[.string y0, .int .u64 y1, .int .u64 y2, .int .u64 y3, .slice ya yl yc] 40)) hz2.out.bel)
    go_wp2_with fail
    refine hcall.out.mono ?_
    rintro e w3 ⟨u2, rfl, hu2, hb3⟩
    have hz3 := (hz2.out.below hb3.out).tail
    clear hcall c0 c1 c2 c3 c4 hz hz2
    obtain rfl : u2 = mkB tx := str_mk hu2.out
    have hzA := Zoo.alloc hz3 (.cells (flT.enc tx).toArray 9)
    have hown1 := Lib.hid (RT.Own.one flT w3 tx w3.heap.size rfl).rd
    obtain ⟨F, ⟨ho1, hF⟩, -, hact⟩ := hzA.act 0 (flT.row u5 (numL l.length :: (l.map f).take q)) rfl
    replace ho1 := Lib.hid ho1
    replace hF := Lib.hid hF
    replace hact := Lib.hid hact
    clear hzA hz3 hu2
    replace hll := Lib.hid hll
    go_wp2_with (at_builtin; go_loud (refine flT.wpList_append rfl (.tmp 19) (.tmp 23) rfl _ _ (numL l.length :: (l.map f).take q) [tx] rfl rfl ho1.out hown1.out (by rw [List.length_singleton, List.length_cons]; have := hll.out; omega) ?_))
    intro v8 w8 ho8 hg8 hat8
    have hz8 := hact.out (flT.row v8 (numL l.length :: (l.map f).take (q + 1))) (fun k => v8.ownBlock = some k) w8 ⟨by rw [hnx.out]; exact ho8, fun _ => Iff.rfl⟩ (grows_row hF.out hg8 (fun g hg => (hat8 g hg).imp_right (fun h => by simpa using h)))
    replace hz8 := Lib.hid hz8
    clear hact ho8 hg8 hat8 ho1 hF hown1
    go_wp2_with fail
    go_roundw
    case rel => exact ⟨q + 1, by go_num, by omega, hz8⟩
    case measure => simp [intOf] <;> omega
  · obtain rfl : q = l.length := by omega
    rw [List.take_of_length_le (by rw [List.length_map]; exact Nat.le_refl _)] at hz
    have hfl := flat_take f l (numL l.length)
    have hown := (hz.out.own 0 rfl).rd
    rw [flT_cells] at hown
    have hjn := join_any u5 (numL l.length :: l.map f) wr hown (by rw [List.length_cons, List.length_map]; omega) (by rw [hfl]; exact hj.out)
    rw [hfl] at hjn
    replace hjn := Lib.hid hjn
    clear hown hfl
    go_wp2_with fail
    refine hjn.out.mono ?_
    rintro e w3 ⟨u2, rfl, hu2, hb3⟩
    have hbE := Lib.hid (hz.out.below hb3.out).bel
    go_wp2_with fail
    go_ret
    exact ⟨_, rfl, hu2, hbE⟩
set_option maxRecDepth 100000 in
set_option maxHeartbeats 8000000 in
theorem list_home_any (f : Hm → List UInt8) (v : Value) (l : List (Hm)) (W : World) (hr : Rd W v l.length (hmT.cells l)) (hlen : l.length ≤ 1000)
    (hone : ∀ y ∈ l, ∀ w, Below W.heap.size W w → Calls Tryz.prog 18 #[.agg #[.int .i64 y.node, .int .u64 y.life, .int .u64 y.try_]] w (RetS (f y) w)) (hj : (listL f l).length ≤ 140737488355328) :
    Calls Tryz.prog 17 #[v, .func (.func 18) #[] #[]] W (RetS (listL f l) W) := by
  have hr0 := Lib.hid (fun (w : World) (h : Below W.heap.size W w) => hr.below h)
  obtain ⟨ao, cap, rfl, -⟩ := hr
  have hw := len64 hlen
  have hnum := Lib.hid (num_any l.length (by omega) W)
  replace hone := Lib.hid hone
  replace hj := Lib.hid hj
  go_enter Tryz.func17, Tryz.ntmps17
  go_wp2_with fail
  refine hnum.out.mono ?_
  rintro e w1 ⟨u, rfl, hu, hb1⟩
  have hz0 : Zoo W (w1.alloc (.cells #[.string u] 9)) [flT.row (.slice (some ⟨w1.heap.size, 0, none⟩) 1 1) [numL l.length]] := by
    have h1 := ((Zoo.nil W).below hb1.out)
    have hs : Value.string u = encStr (numL l.length) := by rw [← hu.out]
    have h2 := RT.Own.one flT w1 (numL l.length) w1.heap.size rfl
    rw [hs]
    exact Zoo.newRow h1 ((Below.refl _ _).alloc (Nat.le_refl _) _) h2 (fun g hg => by cases hg; exact Nat.le_refl _)
  replace hz0 := Lib.hid hz0
  generalize hvo : Value.slice (some ⟨w1.heap.size, 0, none⟩) 1 1 = vo0 at hz0
  clear hnum hb1 hu
  go_upto_region 2 with fail
  try rw [hvo]
  clear hvo
  generalize w1.alloc (.cells #[.string u] 9) = w2 at hz0 ⊢
  go_wp2_with fail
  go_loopw [5, 7, 15] (fun v5 _ v15 wr => ∃ q : Nat, v15 = .int .i64 q ∧ q ≤ l.length ∧ Hid (Zoo W wr [flT.row v5 (numL l.length :: (l.map f).take q)])) (fun _ _ v15 _ => l.length - (intOf v15).toNat)
  case atStart => exact ⟨0, rfl, Nat.zero_le _, hz0⟩
  case round =>
  obtain ⟨q, rfl, hq, hz⟩ := hrel
  by_cases hlt : q < l.length
  · have hl1 : (q : Int) < (l.length : Int) := by omega
    obtain ⟨b, o, cap', hv, hcap, hbl, hcl⟩ := hmT.rd_cells (hr0.out wr hz.out.bel) hlt
    injection hv with q1 q2 q3
    subst q1 q3
    have hk : ∀ r u, (hmT.enc l[q])[r]? = some u → wr.cell? ⟨b, o + q * 3 + r, none⟩ = some u := fun r u hu => by
      rw [Nat.add_assoc]
      exact hcl r u hu
    have c0 : wr.cell? ⟨b, o + q * 3, none⟩ = some (.int .i64 l[q].node) := hk 0 _ rfl
    have c1 : wr.cell? ⟨b, o + q * 3 + 1, none⟩ = some (.int .u64 l[q].life) := hk 1 _ rfl
    have c2 : wr.cell? ⟨b, o + q * 3 + 2, none⟩ = some (.int .u64 l[q].try_) := hk 2 _ rfl
    have hon := Lib.hid (hone.out l[q] (List.getElem_mem hlt))
    have hnx : Hid ((l.map f).take (q + 1) = (l.map f).take q ++ [f l[q]]) := Lib.hid (by rw [List.take_succ_eq_append_getElem (by rw [List.length_map]; exact hlt), List.getElem_map])
    have hll : ((l.map f).take q).length ≤ 1000 := by rw [List.length_take, List.length_map]; omega
    clear hk hcl hbl
    generalize f l[q] = tx at hon hnx
    generalize l[q] = y at c0 c1 c2 hon
    obtain ⟨y0, y1, y2⟩ := y
    dsimp only at c0 c1 c2 hon
    have hz2 := Lib.hid (hz.out.newBox #[.int .i64 y0, .int .u64 y1, .int .u64 y2] 51)
    have hcall := Lib.hid (hon.out (wr.alloc (.cells #[.int .i64 y0, .int .u64 y1, .int .u64 y2] 51)) hz2.out.bel)
    go_wp2_with fail
    refine hcall.out.mono ?_
    rintro e w3 ⟨u2, rfl, hu2, hb3⟩
    have hz3 := (hz2.out.below hb3.out).tail
    clear hcall c0 c1 c2 hz hz2
    obtain rfl : u2 = mkB tx := str_mk hu2.out
    have hzA := Zoo.alloc hz3 (.cells (flT.enc tx).toArray 9)
    have hown1 := Lib.hid (RT.Own.one flT w3 tx w3.heap.size rfl).rd
    obtain ⟨F, ⟨ho1, hF⟩, -, hact⟩ := hzA.act 0 (flT.row u5 (numL l.length :: (l.map f).take q)) rfl
    replace ho1 := Lib.hid ho1
    replace hF := Lib.hid hF
    replace hact := Lib.hid hact
    clear hzA hz3 hu2
    replace hll := Lib.hid hll
    go_wp2_with (at_builtin; go_loud (refine flT.wpList_append rfl (.tmp 19) (.tmp 23) rfl _ _ (numL l.length :: (l.map f).take q) [tx] rfl rfl ho1.out hown1.out (by rw [List.length_singleton, List.length_cons]; have := hll.out; omega) ?_))
    intro v8 w8 ho8 hg8 hat8
    have hz8 := hact.out (flT.row v8 (numL l.length :: (l.map f).take (q + 1))) (fun k => v8.ownBlock = some k) w8 ⟨by rw [hnx.out]; exact ho8, fun _ => Iff.rfl⟩ (grows_row hF.out hg8 (fun g hg => (hat8 g hg).imp_right (fun h => by simpa using h)))
    replace hz8 := Lib.hid hz8
    clear hact ho8 hg8 hat8 ho1 hF hown1
    go_wp2_with fail
    go_roundw
    case rel => exact ⟨q + 1, by go_num, by omega, hz8⟩
    case measure => simp [intOf] <;> omega
  · obtain rfl : q = l.length := by omega
    rw [List.take_of_length_le (by rw [List.length_map]; exact Nat.le_refl _)] at hz
    have hfl := flat_take f l (numL l.length)
    have hown := (hz.out.own 0 rfl).rd
    rw [flT_cells] at hown
    have hjn := join_any u5 (numL l.length :: l.map f) wr hown (by rw [List.length_cons, List.length_map]; omega) (by rw [hfl]; exact hj.out)
    rw [hfl] at hjn
    replace hjn := Lib.hid hjn
    clear hown hfl
    go_wp2_with fail
    refine hjn.out.mono ?_
    rintro e w3 ⟨u2, rfl, hu2, hb3⟩
    have hbE := Lib.hid (hz.out.below hb3.out).bel
    go_wp2_with fail
    go_ret
    exact ⟨_, rfl, hu2, hbE⟩
set_option maxRecDepth 100000 in
set_option maxHeartbeats 8000000 in
theorem list_seat_any (f : St → List UInt8) (v : Value) (l : List (St)) (W : World) (hr : Rd W v l.length (stT.cells l)) (hlen : l.length ≤ 1000)
    (hone : ∀ y ∈ l, ∀ w, Below W.heap.size W w → Calls Tryz.prog 20 #[.agg #[.int .u64 y.session, .int .u64 y.last, .int .i64 y.node, .int .u64 y.life, .int .u64 y.try_]] w (RetS (f y) w)) (hj : (listL f l).length ≤ 140737488355328) :
    Calls Tryz.prog 19 #[v, .func (.func 20) #[] #[]] W (RetS (listL f l) W) := by
  have hr0 := Lib.hid (fun (w : World) (h : Below W.heap.size W w) => hr.below h)
  obtain ⟨ao, cap, rfl, -⟩ := hr
  have hw := len64 hlen
  have hnum := Lib.hid (num_any l.length (by omega) W)
  replace hone := Lib.hid hone
  replace hj := Lib.hid hj
  go_enter Tryz.func19, Tryz.ntmps19
  go_wp2_with fail
  refine hnum.out.mono ?_
  rintro e w1 ⟨u, rfl, hu, hb1⟩
  have hz0 : Zoo W (w1.alloc (.cells #[.string u] 9)) [flT.row (.slice (some ⟨w1.heap.size, 0, none⟩) 1 1) [numL l.length]] := by
    have h1 := ((Zoo.nil W).below hb1.out)
    have hs : Value.string u = encStr (numL l.length) := by rw [← hu.out]
    have h2 := RT.Own.one flT w1 (numL l.length) w1.heap.size rfl
    rw [hs]
    exact Zoo.newRow h1 ((Below.refl _ _).alloc (Nat.le_refl _) _) h2 (fun g hg => by cases hg; exact Nat.le_refl _)
  replace hz0 := Lib.hid hz0
  generalize hvo : Value.slice (some ⟨w1.heap.size, 0, none⟩) 1 1 = vo0 at hz0
  clear hnum hb1 hu
  go_upto_region 2 with fail
  try rw [hvo]
  clear hvo
  generalize w1.alloc (.cells #[.string u] 9) = w2 at hz0 ⊢
  go_wp2_with fail
  go_loopw [5, 7, 15] (fun v5 _ v15 wr => ∃ q : Nat, v15 = .int .i64 q ∧ q ≤ l.length ∧ Hid (Zoo W wr [flT.row v5 (numL l.length :: (l.map f).take q)])) (fun _ _ v15 _ => l.length - (intOf v15).toNat)
  case atStart => exact ⟨0, rfl, Nat.zero_le _, hz0⟩
  case round =>
  obtain ⟨q, rfl, hq, hz⟩ := hrel
  by_cases hlt : q < l.length
  · have hl1 : (q : Int) < (l.length : Int) := by omega
    obtain ⟨b, o, cap', hv, hcap, hbl, hcl⟩ := stT.rd_cells (hr0.out wr hz.out.bel) hlt
    injection hv with q1 q2 q3
    subst q1 q3
    have hk : ∀ r u, (stT.enc l[q])[r]? = some u → wr.cell? ⟨b, o + q * 5 + r, none⟩ = some u := fun r u hu => by
      rw [Nat.add_assoc]
      exact hcl r u hu
    have c0 : wr.cell? ⟨b, o + q * 5, none⟩ = some (.int .u64 l[q].session) := hk 0 _ rfl
    have c1 : wr.cell? ⟨b, o + q * 5 + 1, none⟩ = some (.int .u64 l[q].last) := hk 1 _ rfl
    have c2 : wr.cell? ⟨b, o + q * 5 + 2, none⟩ = some (.int .i64 l[q].node) := hk 2 _ rfl
    have c3 : wr.cell? ⟨b, o + q * 5 + 3, none⟩ = some (.int .u64 l[q].life) := hk 3 _ rfl
    have c4 : wr.cell? ⟨b, o + q * 5 + 4, none⟩ = some (.int .u64 l[q].try_) := hk 4 _ rfl
    have hon := Lib.hid (hone.out l[q] (List.getElem_mem hlt))
    have hnx : Hid ((l.map f).take (q + 1) = (l.map f).take q ++ [f l[q]]) := Lib.hid (by rw [List.take_succ_eq_append_getElem (by rw [List.length_map]; exact hlt), List.getElem_map])
    have hll : ((l.map f).take q).length ≤ 1000 := by rw [List.length_take, List.length_map]; omega
    clear hk hcl hbl
    generalize f l[q] = tx at hon hnx
    generalize l[q] = y at c0 c1 c2 c3 c4 hon
    obtain ⟨y0, y1, y2, y3, y4⟩ := y
    dsimp only at c0 c1 c2 c3 c4 hon
    have hz2 := Lib.hid (hz.out.newBox #[.int .u64 y0, .int .u64 y1, .int .i64 y2, .int .u64 y3, .int .u64 y4] 55)
    have hcall := Lib.hid (hon.out (wr.alloc (.cells #[.int .u64 y0, .int .u64 y1, .int .i64 y2, .int .u64 y3, .int .u64 y4] 55)) hz2.out.bel)
    go_wp2_with fail
    refine hcall.out.mono ?_
    rintro e w3 ⟨u2, rfl, hu2, hb3⟩
    have hz3 := (hz2.out.below hb3.out).tail
    clear hcall c0 c1 c2 c3 c4 hz hz2
    obtain rfl : u2 = mkB tx := str_mk hu2.out
    have hzA := Zoo.alloc hz3 (.cells (flT.enc tx).toArray 9)
    have hown1 := Lib.hid (RT.Own.one flT w3 tx w3.heap.size rfl).rd
    obtain ⟨F, ⟨ho1, hF⟩, -, hact⟩ := hzA.act 0 (flT.row u5 (numL l.length :: (l.map f).take q)) rfl
    replace ho1 := Lib.hid ho1
    replace hF := Lib.hid hF
    replace hact := Lib.hid hact
    clear hzA hz3 hu2
    replace hll := Lib.hid hll
    go_wp2_with (at_builtin; go_loud (refine flT.wpList_append rfl (.tmp 19) (.tmp 23) rfl _ _ (numL l.length :: (l.map f).take q) [tx] rfl rfl ho1.out hown1.out (by rw [List.length_singleton, List.length_cons]; have := hll.out; omega) ?_))
    intro v8 w8 ho8 hg8 hat8
    have hz8 := hact.out (flT.row v8 (numL l.length :: (l.map f).take (q + 1))) (fun k => v8.ownBlock = some k) w8 ⟨by rw [hnx.out]; exact ho8, fun _ => Iff.rfl⟩ (grows_row hF.out hg8 (fun g hg => (hat8 g hg).imp_right (fun h => by simpa using h)))
    replace hz8 := Lib.hid hz8
    clear hact ho8 hg8 hat8 ho1 hF hown1
    go_wp2_with fail
    go_roundw
    case rel => exact ⟨q + 1, by go_num, by omega, hz8⟩
    case measure => simp [intOf] <;> omega
  · obtain rfl : q = l.length := by omega
    rw [List.take_of_length_le (by rw [List.length_map]; exact Nat.le_refl _)] at hz
    have hfl := flat_take f l (numL l.length)
    have hown := (hz.out.own 0 rfl).rd
    rw [flT_cells] at hown
    have hjn := join_any u5 (numL l.length :: l.map f) wr hown (by rw [List.length_cons, List.length_map]; omega) (by rw [hfl]; exact hj.out)
    rw [hfl] at hjn
    replace hjn := Lib.hid hjn
    clear hown hfl
    go_wp2_with fail
    refine hjn.out.mono ?_
    rintro e w3 ⟨u2, rfl, hu2, hb3⟩
    have hbE := Lib.hid (hz.out.below hb3.out).bel
    go_wp2_with fail
    go_ret
    exact ⟨_, rfl, hu2, hbE⟩
end Go.Proofs.YtpkaoiadjffjiaaGreat
namespace Go.Proofs.YtpkaoiadjffjiaaGreat
open Go.RowKit
theorem Codec.iso' {α β : Type} {enc : α → List UInt8} {rd : PS → α × PS} {ok : α → Prop} (h : Codec enc rd ok) (f : α → β) (g : β → α) (hfg : ∀ x, g (f x) = x) : Codec (fun y => enc (g y)) (fun s => (f (rd s).1, (rd s).2)) (fun y => ok (g y) ∧ f (g y) = y) where
  back := fun y r ho => by rw [h.back _ _ ho.1]; simp only [ho.2]
  form := fun s r e => by simp only [hfg]; exact h.form s r e
abbrev M64 : Nat := 18446744073709551615
def letterL (x : Lt) : List UInt8 := numL x.uid ++ (numL x.mod ++ (numL x.size ++ (textL x.hash.data.toList ++ listL textL x.flags)))
def boxI (b : Bx) : List UInt8 := textL b.name.data.toList ++ (numL b.validity ++ (numL b.next ++ (numL b.high ++ listL letterL b.letters)))
def homeI (h : Hm) : List UInt8 := numL h.node.toNat ++ (numL h.life ++ numL h.try_)
def seatI (x : St) : List UInt8 := numL x.session ++ (numL x.last ++ (numL x.node.toNat ++ (numL x.life ++ numL x.try_)))
def imageL (m : Ml) : List UInt8 := numL 1 ++ (numL m.nv ++ (numL m.ns ++ (numL m.sweeps ++ (listL boxI m.boxes ++ (listL homeI m.homes ++ listL seatI m.seats)))))
def letterR (s : PS) : Lt × PS :=
  let a := rNum M64 s; let b := rNum M64 a.2; let c := rNum M64 b.2; let d := rText 32 c.2; let e := rList 16 (rText 32) d.2
  (⟨a.1, e.1, b.1, mkB d.1, c.1⟩, e.2)
def boxR (s : PS) : Bx × PS :=
  let a := rText 64 s; let b := rNum M64 a.2; let c := rNum M64 b.2; let d := rNum M64 c.2; let e := rList 32 letterR d.2
  (⟨mkB a.1, b.1, c.1, d.1, e.1⟩, e.2)
def homeR (s : PS) : Hm × PS :=
  let a := rNum 5 s; let b := rNum M64 a.2; let c := rNum M64 b.2
  (⟨(a.1 : Int), b.1, c.1⟩, c.2)
def seatR (s : PS) : St × PS :=
  let a := rNum M64 s; let b := rNum M64 a.2; let c := rNum 5 b.2; let d := rNum M64 c.2; let e := rNum M64 d.2
  (⟨a.1, b.1, (c.1 : Int), d.1, e.1⟩, e.2)
def imageR (s : PS) : (Nat × Ml) × PS :=
  let v := rNum M64 s; let a := rNum M64 v.2; let b := rNum M64 a.2; let c := rNum M64 b.2; let d := rList 8 boxR c.2; let e := rList 5 homeR d.2; let f := rList 16 seatR e.2
  ((v.1, ⟨d.1, a.1, e.1, f.1, b.1, c.1⟩), f.2)
theorem LetP.flags {x : Lt} {b : Bx} (h : LetP x b) : x.flags.length ≤ 16 ∧ ∀ f ∈ x.flags, f.length ≤ 32 := ⟨right_16 h.fl, right_short h.fl⟩
theorem BoxP.name64 {b : Bx} {next : Nat} (h : BoxP b next) : b.name.data.toList.length ≤ 64 := by
  have := h.ok
  unfold boxOk at this
  simp only [Bool.and_eq_true, decide_eq_true_eq] at this
  exact this.2.1
def letOk (x : Lt) : Prop := x.uid ≤ M64 ∧ x.mod ≤ M64 ∧ x.size ≤ M64 ∧ x.hash.data.toList.length ≤ 32 ∧ x.flags.length ≤ 16 ∧ ∀ f ∈ x.flags, f.length ≤ 32
def boxOkI (b : Bx) : Prop := b.name.data.toList.length ≤ 64 ∧ b.validity ≤ M64 ∧ b.next ≤ M64 ∧ b.high ≤ M64 ∧ b.letters.length ≤ 32 ∧ ∀ x ∈ b.letters, letOk x
def homeOk (h : Hm) : Prop := 0 ≤ h.node ∧ h.node ≤ 5 ∧ h.life ≤ M64 ∧ h.try_ ≤ M64
def seatOk (x : St) : Prop := x.session ≤ M64 ∧ x.last ≤ M64 ∧ (0 ≤ x.node ∧ x.node ≤ 5) ∧ x.life ≤ M64 ∧ x.try_ ≤ M64
def imageOk (m : Ml) : Prop := m.nv ≤ M64 ∧ m.ns ≤ M64 ∧ m.sweeps ≤ M64 ∧ (m.boxes.length ≤ 8 ∧ ∀ b ∈ m.boxes, boxOkI b) ∧ (m.homes.length ≤ 5 ∧ ∀ h ∈ m.homes, homeOk h) ∧ (m.seats.length ≤ 16 ∧ ∀ x ∈ m.seats, seatOk x)
theorem cNum : Codec numL (rNum M64) (· ≤ M64) := Codec.num _ (by decide)
theorem cLetter : Codec letterL letterR letOk :=
  ((cNum.pair (cNum.pair (cNum.pair ((Codec.text 32 (by decide)).pair ((Codec.text 32 (by decide)).list 16 (by decide)))))).iso' (fun p => (⟨p.1, p.2.2.2.2, p.2.1, mkB p.2.2.2.1, p.2.2.1⟩ : Lt)) (fun x => (x.uid, x.mod, x.size, x.hash.data.toList, x.flags)) (fun _ => rfl)).weak
    (fun x h => ⟨⟨h.1, h.2.1, h.2.2.1, h.2.2.2.1, h.2.2.2.2⟩, rfl⟩)
theorem cBox : Codec boxI boxR boxOkI :=
  (((Codec.text 64 (by decide)).pair (cNum.pair (cNum.pair (cNum.pair (cLetter.list 32 (by decide)))))).iso' (fun p => (⟨mkB p.1, p.2.1, p.2.2.1, p.2.2.2.1, p.2.2.2.2⟩ : Bx)) (fun b => (b.name.data.toList, b.validity, b.next, b.high, b.letters)) (fun _ => rfl)).weak
    (fun b h => ⟨⟨h.1, h.2.1, h.2.2.1, h.2.2.2.1, h.2.2.2.2⟩, rfl⟩)
theorem cHome : Codec homeI homeR homeOk :=
  (((Codec.num 5 (by decide)).pair (cNum.pair cNum)).iso' (fun p => (⟨(p.1 : Int), p.2.1, p.2.2⟩ : Hm)) (fun h => (h.node.toNat, h.life, h.try_)) (fun _ => rfl)).weak
    (fun h ho => ⟨⟨by have := ho.2.1; show h.node.toNat ≤ 5; omega, ho.2.2⟩, by
      show (⟨((h.node.toNat : Nat) : Int), h.life, h.try_⟩ : Hm) = h
      rw [Int.toNat_of_nonneg ho.1]⟩)
theorem cSeat : Codec seatI seatR seatOk :=
  ((cNum.pair (cNum.pair ((Codec.num 5 (by decide)).pair (cNum.pair cNum)))).iso' (fun p => (⟨p.1, p.2.1, (p.2.2.1 : Int), p.2.2.2.1, p.2.2.2.2⟩ : St)) (fun x => (x.session, x.last, x.node.toNat, x.life, x.try_)) (fun _ => rfl)).weak
    (fun x ho => ⟨⟨ho.1, ho.2.1, by have := ho.2.2.1.2; show x.node.toNat ≤ 5; omega, ho.2.2.2⟩, by
      show (⟨x.session, x.last, ((x.node.toNat : Nat) : Int), x.life, x.try_⟩ : St) = x
      rw [Int.toNat_of_nonneg ho.2.2.1.1]⟩)
theorem cImage : Codec (fun p : Nat × Ml => numL p.1 ++ (numL p.2.nv ++ (numL p.2.ns ++ (numL p.2.sweeps ++ (listL boxI p.2.boxes ++ (listL homeI p.2.homes ++ listL seatI p.2.seats)))))) imageR (fun p => p.1 ≤ M64 ∧ imageOk p.2) :=
  ((cNum.pair (cNum.pair (cNum.pair (cNum.pair ((cBox.list 8 (by decide)).pair ((cHome.list 5 (by decide)).pair (cSeat.list 16 (by decide)))))))).iso' (fun p => (p.1, (⟨p.2.2.2.2.1, p.2.1, p.2.2.2.2.2.1, p.2.2.2.2.2.2, p.2.2.1, p.2.2.2.1⟩ : Ml))) (fun p => (p.1, p.2.nv, p.2.ns, p.2.sweeps, p.2.boxes, p.2.homes, p.2.seats)) (fun _ => rfl)).weak
    (fun p h => ⟨⟨h.1, h.2.1, h.2.2.1, h.2.2.2.1, h.2.2.2.2⟩, rfl⟩)
/-- what no state can have: numbers that are none of 64 bits -/
structure NumsOk (m : Ml) : Prop where
  homes : ∀ h ∈ m.homes, h.life ≤ M64 ∧ h.try_ ≤ M64
  seats : ∀ x ∈ m.seats, x.last ≤ M64
theorem RightP.let_ok {x : Lt} {b : Bx} (h : LetP x b) (h1 : b.next ≤ 4294967296) (h2 : b.high ≤ 9223372036854775807) : letOk x := by
  refine ⟨?_, ?_, ?_, ?_, h.flags⟩
  · have := h.u2; unfold M64; omega
  · have := h.m2; unfold M64; omega
  · have := h.sz; unfold M64; omega
  · have := h.hs; show x.hash.size ≤ 32; omega
theorem RightP.box_ok {b : Bx} {nv : Nat} (h : BoxP b nv) (hv : nv ≤ 4294967296) : boxOkI b := by
  refine ⟨h.name64, ?_, ?_, ?_, h.len, fun x hx => RightP.let_ok (h.lets x hx) h.n2 h.h2⟩
  · have := h.v2; unfold M64; omega
  · have := h.n2; unfold M64; omega
  · have := h.h2; unfold M64; omega
theorem RightP.image_ok {m : Ml} (h : RightP m) (hn : NumsOk m) : imageOk m := by
  refine ⟨?_, ?_, ?_, ⟨h.lb, fun b hb => RightP.box_ok (h.boxes b hb) h.nv⟩, ⟨h.homes5, fun x hx => ?_⟩, ⟨h.ls, fun x hx => ?_⟩⟩
  · have := h.nv; unfold M64; omega
  · have := h.ns2; unfold M64; omega
  · have := h.sw; unfold M64; omega
  · have h1 := h.seated.homes x hx
    have h2 := hn.homes x hx
    exact ⟨by have := h1.n1; omega, h1.n2, h2⟩
  · have h1 := h.seated.seats x hx
    obtain ⟨y, hy, e1, e2, e3⟩ := h1.home
    have h2 := hn.homes y hy
    have h3 := h.seated.homes y hy
    refine ⟨by have := h1.s2; have := h.ns2; unfold M64; omega, hn.seats x hx, ⟨by rw [← e1]; have := h3.n1; omega, by rw [← e1]; exact h3.n2⟩, by rw [← e2]; exact h2.1, by have := h2.2; omega⟩
/-- a right state is read of its image -/
theorem image_back {m : Ml} (h : RightP m) (hn : NumsOk m) : imageR (some (imageL m)) = ((1, m), some []) := by
  have := cImage.back (1, m) [] ⟨(by decide : 1 ≤ M64), h.image_ok hn⟩
  rw [List.append_nil] at this
  exact this
/-- what is read was written so -/
theorem image_form {t : List UInt8} (h : (imageR (some t)).2 = some []) (h1 : (imageR (some t)).1.1 = 1) : t = imageL (imageR (some t)).1.2 := by
  have := cImage.form (some t) [] h
  rw [List.append_nil] at this
  have e := Option.some.inj this
  rw [h1] at e
  exact e
theorem image_apart {a b : Ml} (ha : RightP a) (hb : RightP b) (na : NumsOk a) (nb : NumsOk b) : imageL a = imageL b ↔ a = b := by
  refine ⟨fun e => ?_, fun e => by rw [e]⟩
  have h1 := image_back ha na
  rw [e, image_back hb nb] at h1
  injection h1 with h1 _
  injection h1 with _ h1
  exact h1.symm
theorem flat_len {α : Type} (f : α → List UInt8) (k : Nat) : ∀ l : List α, (∀ x ∈ l, (f x).length ≤ k) → (l.flatMap f).length ≤ l.length * k
  | [], _ => by simp
  | x :: l, h => by
    have h1 := flat_len f k l (fun y hy => h y (List.mem_cons_of_mem _ hy))
    have h2 := h x (List.mem_cons_self ..)
    rw [List.flatMap_cons, List.length_append, List.length_cons, Nat.add_mul]
    omega
theorem listL_len {α : Type} (f : α → List UInt8) (n k : Nat) (l : List α) (hl : l.length ≤ n) (hn : n < 18446744073709551616) (h : ∀ x ∈ l, (f x).length ≤ k) : (listL f l).length ≤ 10 + n * k := by
  have h1 := flat_len f k l h
  have h2 := numL_10 (n := l.length) (by omega)
  have h3 : l.length * k ≤ n * k := Nat.mul_le_mul_right _ hl
  unfold listL
  rw [List.length_append]
  omega
theorem num10 {n : Nat} (h : n ≤ M64) : (numL n).length ≤ 10 := numL_10 (by unfold M64 at h; omega)
theorem textL_len {t : List UInt8} {k : Nat} (h : t.length ≤ k) (hk : k ≤ M64) : (textL t).length ≤ 10 + k := by
  have := num10 (n := t.length) (by omega)
  unfold textL
  rw [List.length_append]
  omega
theorem letterL_len {x : Lt} (h : letOk x) : (letterL x).length ≤ 754 := by
  have h1 := num10 h.1
  have h2 := num10 h.2.1
  have h3 := num10 h.2.2.1
  have h4 := textL_len h.2.2.2.1 (by decide)
  have h5 := listL_len textL 16 42 x.flags h.2.2.2.2.1 (by decide) (fun f hf => textL_len (h.2.2.2.2.2 f hf) (by decide))
  unfold letterL
  simp only [List.length_append]
  omega
theorem boxI_len {b : Bx} (h : boxOkI b) : (boxI b).length ≤ 24242 := by
  have h1 := textL_len h.1 (by decide)
  have h2 := num10 h.2.1
  have h3 := num10 h.2.2.1
  have h4 := num10 h.2.2.2.1
  have h5 := listL_len letterL 32 754 b.letters h.2.2.2.2.1 (by decide) (fun x hx => letterL_len (h.2.2.2.2.2 x hx))
  unfold boxI
  simp only [List.length_append]
  omega
theorem homeI_len {x : Hm} (h : homeOk x) : (homeI x).length ≤ 30 := by
  have h1 := num10 (n := x.node.toNat) (by have := h.2.1; unfold M64; omega)
  have h2 := num10 h.2.2.1
  have h3 := num10 h.2.2.2
  unfold homeI
  simp only [List.length_append]
  omega
theorem seatI_len {x : St} (h : seatOk x) : (seatI x).length ≤ 50 := by
  have h1 := num10 h.1
  have h2 := num10 h.2.1
  have h3 := num10 (n := x.node.toNat) (by have := h.2.2.1.2; unfold M64; omega)
  have h4 := num10 h.2.2.2.1
  have h5 := num10 h.2.2.2.2
  unfold seatI
  simp only [List.length_append]
  omega
theorem imageL_len {m : Ml} (h : imageOk m) : (imageL m).length ≤ 200000 := by
  have h1 := num10 (n := 1) (by decide)
  have h2 := num10 h.1
  have h3 := num10 h.2.1
  have h4 := num10 h.2.2.1
  have h5 := listL_len boxI 8 24242 m.boxes h.2.2.2.1.1 (by decide) (fun x hx => boxI_len (h.2.2.2.1.2 x hx))
  have h6 := listL_len homeI 5 30 m.homes h.2.2.2.2.1.1 (by decide) (fun x hx => homeI_len (h.2.2.2.2.1.2 x hx))
  have h7 := listL_len seatI 16 50 m.seats h.2.2.2.2.2.1 (by decide) (fun x hx => seatI_len (h.2.2.2.2.2.2 x hx))
  unfold imageL
  simp only [List.length_append]
  omega
end Go.Proofs.YtpkaoiadjffjiaaGreat
