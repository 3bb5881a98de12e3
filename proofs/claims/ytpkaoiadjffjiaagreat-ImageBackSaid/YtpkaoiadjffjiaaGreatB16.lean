/- image's letter, box, home, seat: walked. (written by tools/gen_ImG.py) image's Encode: walked. -/
import Derived.Test.YtpkaoiadjffjiaaGreatB15
import Derived.Test.YtpkaoiadjffjiaaGreatB14
import Derived.Test.YtpkaoiadjffjiaaGreatB11
namespace Go.Proofs.YtpkaoiadjffjiaaGreat
set_option linter.unusedSimpArgs false
open Go.RowKit
attribute [local go_sem ↓] Go.wp_at_zero Go.wp_at_succ

theorem lt64 {n : Nat} (h : n ≤ M64) : n < 18446744073709551616 := by unfold M64 at h; omega
theorem cat_ok {u v : ByteArray} {a b : List UInt8} (hu : u.data.toList = a) (hv : v.data.toList = b) (h : a.length + b.length ≤ 1000000000) : ¬ 9223372036854775807 < u.size + v.size := by
  rw [size_len, size_len, hu, hv]; omega
theorem cat_ok3 {u v x : ByteArray} {a b c : List UInt8} (hu : u.data.toList = a) (hv : v.data.toList = b) (hx : x.data.toList = c) (h : (a ++ b).length + c.length ≤ 1000000000) : ¬ 9223372036854775807 < u.size + v.size + x.size := by
  rw [List.length_append] at h
  rw [size_len, size_len, size_len, hu, hv, hx]; omega
theorem texts_size {f : List UInt8} (h : f.length ≤ 1000) : (mkB f).size ≤ 1152921504606846976 := by show f.length ≤ _; omega
theorem flags_any (v : Value) (l : List (List UInt8)) (W : World) (hr : FlIn W v l) (hl : l.length ≤ 16) (hs : ∀ f ∈ l, f.length ≤ 32) :
    Calls Tryz.prog 63 #[v, .func (.func 49) #[] #[]] W (RetS (listL textL l) W) := by
  refine list_string_any textL v l W (by rw [flT_cells]; exact hr) (by omega) (fun y hy w _ => ?_) ?_
  · exact text_any (mkB y) (texts_size (by have := hs y hy; omega)) w
  · have := listL_len textL 16 42 l hl (by decide) (fun f hf => textL_len (hs f hf) (by decide))
    omega
set_option maxRecDepth 100000 in
set_option maxHeartbeats 8000000 in
theorem letter_any (y : LtV) (W : World) (hlo : letOk y.x) (hfl : FlIn W y.v y.x.flags) :
    Calls Tryz.prog 51 #[.agg #[.int .u64 y.x.uid, .slice y.a y.x.flags.length y.c, .int .u64 y.x.mod, .string y.x.hash, .int .u64 y.x.size]] W (RetS (letterL y.x) W) := by
  have hfl0 := Lib.hid (fun w (h : Below W.heap.size W w) => hfl.below h)
  obtain ⟨⟨uid, fl, md, hs, sz⟩, a, c⟩ := y
  unfold LtV.v at hfl0
  dsimp only at hlo hfl0 ⊢
  clear hfl
  have hz1 := (Zoo.nil W).newBox [.int .u64 uid, .slice a fl.length c, .int .u64 md, .string hs, .int .u64 sz].toArray 45
  generalize hBB : W.heap.size = BB at hz1
  generalize hWa : (W.alloc (.cells [.int .u64 uid, .slice a fl.length c, .int .u64 md, .string hs, .int .u64 sz].toArray 45)) = Wa at hz1
  have hbW := Lib.hid hz1.bel
  have hV : Hid (∀ w', Below Wa.heap.size Wa w' → w'.cell? ⟨BB, 0, none⟩ = some (.int .u64 uid) ∧ w'.cell? ⟨BB, 1, none⟩ = some (.slice a fl.length c) ∧ w'.cell? ⟨BB, 2, none⟩ = some (.int .u64 md) ∧ w'.cell? ⟨BB, 3, none⟩ = some (.string hs) ∧ w'.cell? ⟨BB, 4, none⟩ = some (.int .u64 sz)) := Lib.hid (fun w' hB => by
    have h1 := bel_heapR hB (hz1.box 0 rfl).1
    exact ⟨box_cell h1 0, box_cell h1 1, box_cell h1 2, box_cell h1 3, box_cell h1 4⟩)
  have hnn : ∀ x ∈ [uid, md, sz], x < 18446744073709551616 := fun x hx => by
    simp only [List.mem_cons, List.not_mem_nil, or_false] at hx
    rcases hx with rfl | rfl | rfl
    · exact lt64 hlo.1
    · exact lt64 hlo.2.1
    · exact lt64 hlo.2.2.1
  have hl1 : ([uid, md, sz].flatMap numL).length + (textL hs.data.toList).length ≤ 1000000000 := by
    have h1 := nums_len [uid, md, sz] hnn
    have h2 := textL_len hlo.2.2.2.1 (by decide)
    dsimp only at h2
    simp only [List.length_cons, List.length_nil] at h1
    omega
  have hl2 : ([uid, md, sz].flatMap numL ++ textL hs.data.toList).length + (listL textL fl).length ≤ 1000000000 := by
    have h3 := listL_len textL 16 42 fl hlo.2.2.2.2.1 (by decide) (fun f hf => textL_len (hlo.2.2.2.2.2 f hf) (by decide))
    have h1 := nums_len [uid, md, sz] hnn
    have h2 := textL_len hlo.2.2.2.1 (by decide)
    dsimp only at h2
    simp only [List.length_cons, List.length_nil] at h1
    rw [List.length_append]
    omega
  clear hz1
  go_enter Tryz.func51, Tryz.ntmps51
  go_upto_region 1 with fail
  clear hWa
  have hb0 := (Below.refl Wa.heap.size Wa).drew
  refine wp_region_hd (fun w' => w'.cell? ⟨BB, 0, none⟩ = some (.int .u64 uid) ∧ w'.cell? ⟨BB, 1, none⟩ = some (.slice a fl.length c) ∧ w'.cell? ⟨BB, 2, none⟩ = some (.int .u64 md) ∧ w'.cell? ⟨BB, 3, none⟩ = some (.string hs) ∧ w'.cell? ⟨BB, 4, none⟩ = some (.int .u64 sz)) 16 1 (by kernel_rfl) rfl ⟨by kernel_rfl, by kernel_rfl, by kernel_rfl, by decide⟩ (hV.out _ hb0) (fun hok hS0 => ?_)
  generalize Wa.drew = wd at *
  refine Hd.take (i := 0) (v := ?tv70) hok rfl (by kernel_rfl) (fun _ _ _ h => h) (Or.inl ⟨by rfl, ?ty70⟩) (by assumption) ?tr70
  case ty70 => (intro w hSw; (try dsimp only at hSw); go_simp; (try with_reducible rfl))
  try simp only [List.getElem_toArray, List.getElem_cons_succ, List.getElem_cons_zero, Act.put, List.setIfInBounds_toArray, List.set_cons_zero, List.set_cons_succ]
  refine Hd.take (i := 1) (v := ?tv71) hok rfl (by kernel_rfl) (fun _ _ _ h => h) (Or.inl ⟨by rfl, ?ty71⟩) (by assumption) ?tr71
  case ty71 => (intro w hSw; (try dsimp only at hSw); go_simp; (try with_reducible rfl))
  try simp only [List.getElem_toArray, List.getElem_cons_succ, List.getElem_cons_zero, Act.put, List.setIfInBounds_toArray, List.set_cons_zero, List.set_cons_succ]
  refine Hd.take (i := 2) (v := ?tv72) hok rfl (by kernel_rfl) (fun _ _ _ h => h) (Or.inl ⟨by rfl, ?ty72⟩) (by assumption) ?tr72
  case ty72 => (intro w hSw; (try dsimp only at hSw); go_simp; (try with_reducible rfl))
  try simp only [List.getElem_toArray, List.getElem_cons_succ, List.getElem_cons_zero, Act.put, List.setIfInBounds_toArray, List.set_cons_zero, List.set_cons_succ]
  refine Hd.take (i := 3) (v := ?tv73) hok rfl (by kernel_rfl) (fun _ _ _ h => h) (Or.inl ⟨by rfl, ?ty73⟩) (by assumption) ?tr73
  case ty73 => (intro w hSw; (try dsimp only at hSw); go_simp; (try with_reducible rfl))
  try simp only [List.getElem_toArray, List.getElem_cons_succ, List.getElem_cons_zero, Act.put, List.setIfInBounds_toArray, List.set_cons_zero, List.set_cons_succ]
  refine Hd.take (i := 4) (v := ?tv74) hok rfl (by kernel_rfl) (fun _ _ _ h => h) (Or.inl ⟨by rfl, ?ty74⟩) (by assumption) ?tr74
  case ty74 => (intro w hSw; (try dsimp only at hSw); go_simp; (try with_reducible rfl))
  try simp only [List.getElem_toArray, List.getElem_cons_succ, List.getElem_cons_zero, Act.put, List.setIfInBounds_toArray, List.set_cons_zero, List.set_cons_succ]
  refine Hd.take (i := 5) (v := ?tv75) hok rfl (by kernel_rfl) (fun _ _ _ h => h) (Or.inl ⟨by rfl, ?ty75⟩) (by assumption) ?tr75
  case ty75 => (intro w hSw; (try dsimp only at hSw); go_simp; (try with_reducible rfl))
  try simp only [List.getElem_toArray, List.getElem_cons_succ, List.getElem_cons_zero, Act.put, List.setIfInBounds_toArray, List.set_cons_zero, List.set_cons_succ]
  refine Hd.take (i := 8) (v := ?tv76) hok rfl (by kernel_rfl) (fun _ _ _ h => h) (Or.inl ⟨by rfl, ?ty76⟩) (by assumption) ?tr76
  case ty76 => (intro w hSw; (try dsimp only at hSw); go_simp; (try with_reducible rfl))
  try simp only [List.getElem_toArray, List.getElem_cons_succ, List.getElem_cons_zero, Act.put, List.setIfInBounds_toArray, List.set_cons_zero, List.set_cons_succ]
  refine Hd.take (i := 9) (v := ?tv77) hok rfl (by kernel_rfl) (fun _ _ _ h => h) (Or.inl ⟨by rfl, ?ty77⟩) (by assumption) ?tr77
  case ty77 => (intro w hSw; (try dsimp only at hSw); go_simp; (try with_reducible rfl))
  try simp only [List.getElem_toArray, List.getElem_cons_succ, List.getElem_cons_zero, Act.put, List.setIfInBounds_toArray, List.set_cons_zero, List.set_cons_succ]
  refine Hd.take (i := 12) (v := ?tv78) hok rfl (by kernel_rfl) (fun _ _ _ h => h) (Or.inl ⟨by rfl, ?ty78⟩) (by assumption) ?tr78
  case ty78 => (intro w hSw; (try dsimp only at hSw); go_simp; (try with_reducible rfl))
  try simp only [List.getElem_toArray, List.getElem_cons_succ, List.getElem_cons_zero, Act.put, List.setIfInBounds_toArray, List.set_cons_zero, List.set_cons_succ]
  refine Hd.take (i := 13) (v := ?tv79) hok rfl (by kernel_rfl) (fun _ _ _ h => h) (Or.inl ⟨by rfl, ?ty79⟩) (by assumption) ?tr79
  case ty79 => (intro w hSw; (try dsimp only at hSw); go_simp; (try with_reducible rfl))
  try simp only [List.getElem_toArray, List.getElem_cons_succ, List.getElem_cons_zero, Act.put, List.setIfInBounds_toArray, List.set_cons_zero, List.set_cons_succ]
  refine Hd.one (i := 6) rfl (by kernel_rfl) (fun K hK => ?_)
  go_simp
  have hrd := rd_newN wd [uid, md, sz] 23
  have hb1 := hb0.alloc hb0.size (.cells #[.int .u64 (uid : Nat), .int .u64 (md : Nat), .int .u64 (sz : Nat)] 23)
  simp only [List.map_cons, List.map_nil, encN] at hrd
  have hSn := hV.out _ hb1
  refine hK _ _ hSn ?_
  clear hK K
  try simp only [List.getElem_toArray, List.getElem_cons_succ, List.getElem_cons_zero, Act.put, List.setIfInBounds_toArray, List.set_cons_zero, List.set_cons_succ]
  generalize hsl : Value.slice (some ⟨wd.heap.size, 0, none⟩) 3 3 = sl at hrd ⊢
  generalize wd.alloc (.cells #[.int .u64 (uid : Nat), .int .u64 (md : Nat), .int .u64 (sz : Nat)] 23) = w1 at hrd hSn hb1 ⊢
  clear hsl
  refine Hd.one (i := 7) rfl (by kernel_rfl) (fun K hK => ?_)
  go_simp
  refine (nums_any sl [uid, md, sz] hnn (by simp) w1 hrd).mono ?_
  rintro e w2 ⟨u1, rfl, hu1, hbx⟩
  dsimp only
  have hb2 := hb1.trans (hbx.out.mono hb1.size)
  have hSn := hV.out _ hb2
  refine hK _ _ hSn ?_
  clear hK K hbx
  try simp only [List.getElem_toArray, List.getElem_cons_succ, List.getElem_cons_zero, Act.put, List.setIfInBounds_toArray, List.set_cons_zero, List.set_cons_succ]
  refine Hd.one (i := 10) rfl (by kernel_rfl) (fun K hK => ?_)
  go_simp
  refine (text_any hs (by have := hlo.2.2.2.1; dsimp only at this; rw [← size_len] at this; omega) w2).mono ?_
  rintro e w3 ⟨u2, rfl, hu2, hbx⟩
  dsimp only
  have hb3 := hb2.trans (hbx.out.mono hb2.size)
  have hSn := hV.out _ hb3
  refine hK _ _ hSn ?_
  clear hK K hbx
  try simp only [List.getElem_toArray, List.getElem_cons_succ, List.getElem_cons_zero, Act.put, List.setIfInBounds_toArray, List.set_cons_zero, List.set_cons_succ]
  have hc1 := cat_ok hu1.out hu2.out hl1
  refine Hd.take (i := 11) (v := ?tv80) hok rfl (by kernel_rfl) (fun _ _ _ h => h) (Or.inl ⟨by rfl, ?ty80⟩) (by assumption) ?tr80
  case ty80 => (intro w hSw; (try dsimp only at hSw); go_simp; (try with_reducible rfl))
  try simp only [List.getElem_toArray, List.getElem_cons_succ, List.getElem_cons_zero, Act.put, List.setIfInBounds_toArray, List.set_cons_zero, List.set_cons_succ]
  clear hc1
  refine Hd.one (i := 14) rfl (by kernel_rfl) (fun K hK => ?_)
  go_simp
  refine (flags_any (.slice a fl.length c) fl w3 (hfl0.out _ (hbW.out.trans (hb3.mono hbW.out.size))) hlo.2.2.2.2.1 hlo.2.2.2.2.2).mono ?_
  rintro e w4 ⟨u3, rfl, hu3, hbx⟩
  dsimp only
  have hb4 := hb3.trans (hbx.out.mono hb3.size)
  have hSn := hV.out _ hb4
  refine hK _ _ hSn ?_
  clear hK K hbx
  try simp only [List.getElem_toArray, List.getElem_cons_succ, List.getElem_cons_zero, Act.put, List.setIfInBounds_toArray, List.set_cons_zero, List.set_cons_succ]
  have hc2 := cat_ok3 hu1.out hu2.out hu3.out hl2
  refine Hd.take (i := 15) (v := ?tv81) hok rfl (by kernel_rfl) (fun _ _ _ h => h) (Or.inl ⟨by rfl, ?ty81⟩) (by assumption) ?tr81
  case ty81 => (intro w hSw; (try dsimp only at hSw); go_simp; (try with_reducible rfl))
  try simp only [List.getElem_toArray, List.getElem_cons_succ, List.getElem_cons_zero, Act.put, List.setIfInBounds_toArray, List.set_cons_zero, List.set_cons_succ]
  clear hc2
  refine Hd.done (by kernel_rfl) ?_
  simp only [List.drop_succ_cons, List.drop_zero]
  clear hSn hok hS0
  have hbE := Lib.hid (hbW.out.trans (hb4.mono hbW.out.size))
  have hfin : Hid (((u1 ++ u2) ++ u3).data.toList = letterL ⟨uid, fl, md, hs, sz⟩) := Lib.hid (by
    rw [toList_app, toList_app, hu1.out, hu2.out, hu3.out]
    unfold letterL
    simp only [List.flatMap_cons, List.flatMap_nil, List.append_nil, List.append_assoc])
  go_wp2_with fail
  go_ret
  exact ⟨_, rfl, hfin, by first | exact hbE | (rw [← hBB]; exact hbE)⟩
set_option maxRecDepth 100000 in
set_option maxHeartbeats 8000000 in
theorem homeI_any (x : Hm) (W : World) (hlo : homeOk x) :
    Calls Tryz.prog 18 #[.agg #[.int .i64 x.node, .int .u64 x.life, .int .u64 x.try_]] W (RetS (homeI x) W) := by
  obtain ⟨nd, lf, tr⟩ := x
  dsimp only at hlo ⊢
  have hz1 := (Zoo.nil W).newBox [.int .i64 nd, .int .u64 lf, .int .u64 tr].toArray 51
  generalize hBB : W.heap.size = BB at hz1
  generalize hWa : (W.alloc (.cells [.int .i64 nd, .int .u64 lf, .int .u64 tr].toArray 51)) = Wa at hz1
  have hbW := Lib.hid hz1.bel
  have hV : Hid (∀ w', Below Wa.heap.size Wa w' → w'.cell? ⟨BB, 0, none⟩ = some (.int .i64 nd) ∧ w'.cell? ⟨BB, 1, none⟩ = some (.int .u64 lf) ∧ w'.cell? ⟨BB, 2, none⟩ = some (.int .u64 tr)) := Lib.hid (fun w' hB => by
    have h1 := bel_heapR hB (hz1.box 0 rfl).1
    exact ⟨box_cell h1 0, box_cell h1 1, box_cell h1 2⟩)
  have hnd : ((nd.toNat : Nat) : Int) = nd := Int.toNat_of_nonneg hlo.1
  have hwn : IntKind.u64.wrap nd = nd := by rw [IntKind.wrap_u64]; have h1 := hlo.1; have h2 := hlo.2.1; dsimp only at h1 h2; omega
  have hnn : ∀ x ∈ [nd.toNat, lf, tr], x < 18446744073709551616 := fun x hx => by
    simp only [List.mem_cons, List.not_mem_nil, or_false] at hx
    rcases hx with rfl | rfl | rfl
    · have h2 := hlo.2.1; dsimp only at h2; omega
    · exact lt64 hlo.2.2.1
    · exact lt64 hlo.2.2.2
  clear hz1
  go_enter Tryz.func18, Tryz.ntmps18
  go_upto_region 1 with fail
  clear hWa
  obtain ⟨x0, x1, x2⟩ := hV.out _ (Below.refl _ _)
  have hrd := rd_newN Wa [nd.toNat, lf, tr] 23
  have hb1 := (Below.refl Wa.heap.size Wa).alloc (Nat.le_refl _) (.cells #[.int .u64 nd, .int .u64 (lf : Nat), .int .u64 (tr : Nat)] 23)
  have hcall := nums_any _ [nd.toNat, lf, tr] hnn (by simp) _ hrd
  simp only [List.map_cons, List.map_nil, encN, hnd, List.length_cons, List.length_nil, Nat.zero_add, Nat.reduceAdd] at hcall
  replace hcall := Lib.hid hcall
  clear hrd
  go_wp2_with fail
  refine hcall.out.mono ?_
  rintro e w2 ⟨u1, rfl, hu1, hb2⟩
  have hbE := Lib.hid (hbW.out.trans ((hb1.trans (hb2.out.mono hb1.size)).mono hbW.out.size))
  clear hcall x0 x1 x2
  go_wp2_with fail
  go_ret
  exact ⟨_, rfl, Lib.hid (by rw [hu1.out]; unfold homeI; simp only [List.flatMap_cons, List.flatMap_nil, List.append_nil, List.append_assoc]), by first | exact hbE | (rw [← hBB]; exact hbE)⟩
set_option maxRecDepth 100000 in
set_option maxHeartbeats 8000000 in
theorem seatI_any (x : St) (W : World) (hlo : seatOk x) :
    Calls Tryz.prog 20 #[.agg #[.int .u64 x.session, .int .u64 x.last, .int .i64 x.node, .int .u64 x.life, .int .u64 x.try_]] W (RetS (seatI x) W) := by
  obtain ⟨ss, la, nd, lf, tr⟩ := x
  dsimp only at hlo ⊢
  have hz1 := (Zoo.nil W).newBox [.int .u64 ss, .int .u64 la, .int .i64 nd, .int .u64 lf, .int .u64 tr].toArray 55
  generalize hBB : W.heap.size = BB at hz1
  generalize hWa : (W.alloc (.cells [.int .u64 ss, .int .u64 la, .int .i64 nd, .int .u64 lf, .int .u64 tr].toArray 55)) = Wa at hz1
  have hbW := Lib.hid hz1.bel
  have hV : Hid (∀ w', Below Wa.heap.size Wa w' → w'.cell? ⟨BB, 0, none⟩ = some (.int .u64 ss) ∧ w'.cell? ⟨BB, 1, none⟩ = some (.int .u64 la) ∧ w'.cell? ⟨BB, 2, none⟩ = some (.int .i64 nd) ∧ w'.cell? ⟨BB, 3, none⟩ = some (.int .u64 lf) ∧ w'.cell? ⟨BB, 4, none⟩ = some (.int .u64 tr)) := Lib.hid (fun w' hB => by
    have h1 := bel_heapR hB (hz1.box 0 rfl).1
    exact ⟨box_cell h1 0, box_cell h1 1, box_cell h1 2, box_cell h1 3, box_cell h1 4⟩)
  have hnd : ((nd.toNat : Nat) : Int) = nd := Int.toNat_of_nonneg hlo.2.2.1.1
  have hwn : IntKind.u64.wrap nd = nd := by rw [IntKind.wrap_u64]; have h1 := hlo.2.2.1.1; have h2 := hlo.2.2.1.2; dsimp only at h1 h2; omega
  have hnn : ∀ x ∈ [ss, la, nd.toNat, lf, tr], x < 18446744073709551616 := fun x hx => by
    simp only [List.mem_cons, List.not_mem_nil, or_false] at hx
    rcases hx with rfl | rfl | rfl | rfl | rfl
    · exact lt64 hlo.1
    · exact lt64 hlo.2.1
    · have h2 := hlo.2.2.1.2; dsimp only at h2; omega
    · exact lt64 hlo.2.2.2.1
    · exact lt64 hlo.2.2.2.2
  clear hz1
  go_enter Tryz.func20, Tryz.ntmps20
  go_upto_region 1 with fail
  clear hWa
  obtain ⟨x0, x1, x2, x3, x4⟩ := hV.out _ (Below.refl _ _)
  have hrd := rd_newN Wa [ss, la, nd.toNat, lf, tr] 23
  have hb1 := (Below.refl Wa.heap.size Wa).alloc (Nat.le_refl _) (.cells #[.int .u64 (ss : Nat), .int .u64 (la : Nat), .int .u64 nd, .int .u64 (lf : Nat), .int .u64 (tr : Nat)] 23)
  have hcall := nums_any _ [ss, la, nd.toNat, lf, tr] hnn (by simp) _ hrd
  simp only [List.map_cons, List.map_nil, encN, hnd, List.length_cons, List.length_nil, Nat.zero_add, Nat.reduceAdd] at hcall
  replace hcall := Lib.hid hcall
  clear hrd
  go_wp2_with fail
  refine hcall.out.mono ?_
  rintro e w2 ⟨u1, rfl, hu1, hb2⟩
  have hbE := Lib.hid (hbW.out.trans ((hb1.trans (hb2.out.mono hb1.size)).mono hbW.out.size))
  clear hcall x0 x1 x2 x3 x4
  go_wp2_with fail
  go_ret
  exact ⟨_, rfl, Lib.hid (by rw [hu1.out]; unfold seatI; simp only [List.flatMap_cons, List.flatMap_nil, List.append_nil, List.append_assoc]), by first | exact hbE | (rw [← hBB]; exact hbE)⟩
set_option maxRecDepth 100000 in
set_option maxHeartbeats 8000000 in
theorem boxI_any (y : BxV) (W : World) (hlo : boxOkI y.b) (hin : LtsIn W y.v y.rows) :
    Calls Tryz.prog 16 #[.agg #[.string y.name, .int .u64 y.validity, .int .u64 y.next, .int .u64 y.high, .slice y.a y.rows.length y.c]] W (RetS (boxI y.b) W) := by
  have hin0 := Lib.hid (fun w (h : Below W.heap.size W w) => hin.below h)
  obtain ⟨nm, va, nx, hi, rows, a, c⟩ := y
  unfold BxV.v at hin0
  unfold BxV.b at hlo ⊢
  dsimp only at hlo hin0 ⊢
  clear hin
  have hz1 := (Zoo.nil W).newBox [.string nm, .int .u64 va, .int .u64 nx, .int .u64 hi, .slice a rows.length c].toArray 40
  generalize hBB : W.heap.size = BB at hz1
  generalize hWa : (W.alloc (.cells [.string nm, .int .u64 va, .int .u64 nx, .int .u64 hi, .slice a rows.length c].toArray 40)) = Wa at hz1
  have hbW := Lib.hid hz1.bel
  have hV : Hid (∀ w', Below Wa.heap.size Wa w' → w'.cell? ⟨BB, 0, none⟩ = some (.string nm) ∧ w'.cell? ⟨BB, 1, none⟩ = some (.int .u64 va) ∧ w'.cell? ⟨BB, 2, none⟩ = some (.int .u64 nx) ∧ w'.cell? ⟨BB, 3, none⟩ = some (.int .u64 hi) ∧ w'.cell? ⟨BB, 4, none⟩ = some (.slice a rows.length c)) := Lib.hid (fun w' hB => by
    have h1 := bel_heapR hB (hz1.box 0 rfl).1
    exact ⟨box_cell h1 0, box_cell h1 1, box_cell h1 2, box_cell h1 3, box_cell h1 4⟩)
  have hnn : ∀ x ∈ [va, nx, hi], x < 18446744073709551616 := fun x hx => by
    simp only [List.mem_cons, List.not_mem_nil, or_false] at hx
    rcases hx with rfl | rfl | rfl
    · exact lt64 hlo.2.1
    · exact lt64 hlo.2.2.1
    · exact lt64 hlo.2.2.2.1
  have hrl : rows.length ≤ 32 := by have := hlo.2.2.2.2.1; rwa [List.length_map] at this
  have hro : ∀ y ∈ rows, letOk y.x := fun y hy => hlo.2.2.2.2.2 y.x (List.mem_map.2 ⟨y, hy, rfl⟩)
  have hll : (listL letterL (rows.map LtV.x)).length ≤ 100000 := by
    have := listL_len letterL 32 754 (rows.map LtV.x) (by rw [List.length_map]; exact hrl) (by decide) (fun x hx => by
      obtain ⟨y, hy, rfl⟩ := List.mem_map.1 hx
      exact letterL_len (hro y hy))
    omega
  have hle : listL (fun y : LtV => letterL y.x) rows = listL letterL (rows.map LtV.x) := by
    unfold listL
    rw [List.length_map, List.flatMap_map]
  have hnm : nm.size ≤ 1152921504606846976 := by have := hlo.1; dsimp only at this; rw [← size_len] at this; omega
  have hl1 : (textL nm.data.toList).length + ([va, nx, hi].flatMap numL).length ≤ 1000000000 := by
    have h1 := nums_len [va, nx, hi] hnn
    have h2 := textL_len hlo.1 (by decide)
    simp only [List.length_cons, List.length_nil] at h1
    dsimp only at h2
    omega
  have hl2 : (textL nm.data.toList ++ [va, nx, hi].flatMap numL).length + (listL letterL (rows.map LtV.x)).length ≤ 1000000000 := by
    have h1 := nums_len [va, nx, hi] hnn
    have h2 := textL_len hlo.1 (by decide)
    simp only [List.length_cons, List.length_nil] at h1
    dsimp only at h2
    rw [List.length_append]
    omega
  have hls := Lib.hid (fun w (h : Below W.heap.size W w) => by
    have h1 := hin0.out w h
    have h2 := list_letter_any (fun y : LtV => letterL y.x) (.slice a rows.length c) rows w h1.1 (by omega) (fun y hy w2 hb2 => letter_any y w2 (hro y hy) ((h1.2 y hy).below hb2)) (by rw [hle]; omega)
    rw [hle] at h2
    exact h2)
  generalize hlt : listL letterL (rows.map LtV.x) = tl at hls hl2
  clear hz1
  go_enter Tryz.func16, Tryz.ntmps16
  go_upto_region 1 with fail
  clear hWa
  have hb0 := (Below.refl Wa.heap.size Wa).drew
  refine wp_region_hd (fun w' => w'.cell? ⟨BB, 0, none⟩ = some (.string nm) ∧ w'.cell? ⟨BB, 1, none⟩ = some (.int .u64 va) ∧ w'.cell? ⟨BB, 2, none⟩ = some (.int .u64 nx) ∧ w'.cell? ⟨BB, 3, none⟩ = some (.int .u64 hi) ∧ w'.cell? ⟨BB, 4, none⟩ = some (.slice a rows.length c)) 16 1 (by kernel_rfl) rfl ⟨by kernel_rfl, by kernel_rfl, by kernel_rfl, by decide⟩ (hV.out _ hb0) (fun hok hS0 => ?_)
  generalize Wa.drew = wd at *
  refine Hd.take (i := 0) (v := ?tv82) hok rfl (by kernel_rfl) (fun _ _ _ h => h) (Or.inl ⟨by rfl, ?ty82⟩) (by assumption) ?tr82
  case ty82 => (intro w hSw; (try dsimp only at hSw); go_simp; (try with_reducible rfl))
  try simp only [List.getElem_toArray, List.getElem_cons_succ, List.getElem_cons_zero, Act.put, List.setIfInBounds_toArray, List.set_cons_zero, List.set_cons_succ]
  refine Hd.take (i := 1) (v := ?tv83) hok rfl (by kernel_rfl) (fun _ _ _ h => h) (Or.inl ⟨by rfl, ?ty83⟩) (by assumption) ?tr83
  case ty83 => (intro w hSw; (try dsimp only at hSw); go_simp; (try with_reducible rfl))
  try simp only [List.getElem_toArray, List.getElem_cons_succ, List.getElem_cons_zero, Act.put, List.setIfInBounds_toArray, List.set_cons_zero, List.set_cons_succ]
  refine Hd.take (i := 3) (v := ?tv84) hok rfl (by kernel_rfl) (fun _ _ _ h => h) (Or.inl ⟨by rfl, ?ty84⟩) (by assumption) ?tr84
  case ty84 => (intro w hSw; (try dsimp only at hSw); go_simp; (try with_reducible rfl))
  try simp only [List.getElem_toArray, List.getElem_cons_succ, List.getElem_cons_zero, Act.put, List.setIfInBounds_toArray, List.set_cons_zero, List.set_cons_succ]
  refine Hd.take (i := 4) (v := ?tv85) hok rfl (by kernel_rfl) (fun _ _ _ h => h) (Or.inl ⟨by rfl, ?ty85⟩) (by assumption) ?tr85
  case ty85 => (intro w hSw; (try dsimp only at hSw); go_simp; (try with_reducible rfl))
  try simp only [List.getElem_toArray, List.getElem_cons_succ, List.getElem_cons_zero, Act.put, List.setIfInBounds_toArray, List.set_cons_zero, List.set_cons_succ]
  refine Hd.take (i := 5) (v := ?tv86) hok rfl (by kernel_rfl) (fun _ _ _ h => h) (Or.inl ⟨by rfl, ?ty86⟩) (by assumption) ?tr86
  case ty86 => (intro w hSw; (try dsimp only at hSw); go_simp; (try with_reducible rfl))
  try simp only [List.getElem_toArray, List.getElem_cons_succ, List.getElem_cons_zero, Act.put, List.setIfInBounds_toArray, List.set_cons_zero, List.set_cons_succ]
  refine Hd.take (i := 6) (v := ?tv87) hok rfl (by kernel_rfl) (fun _ _ _ h => h) (Or.inl ⟨by rfl, ?ty87⟩) (by assumption) ?tr87
  case ty87 => (intro w hSw; (try dsimp only at hSw); go_simp; (try with_reducible rfl))
  try simp only [List.getElem_toArray, List.getElem_cons_succ, List.getElem_cons_zero, Act.put, List.setIfInBounds_toArray, List.set_cons_zero, List.set_cons_succ]
  refine Hd.take (i := 7) (v := ?tv88) hok rfl (by kernel_rfl) (fun _ _ _ h => h) (Or.inl ⟨by rfl, ?ty88⟩) (by assumption) ?tr88
  case ty88 => (intro w hSw; (try dsimp only at hSw); go_simp; (try with_reducible rfl))
  try simp only [List.getElem_toArray, List.getElem_cons_succ, List.getElem_cons_zero, Act.put, List.setIfInBounds_toArray, List.set_cons_zero, List.set_cons_succ]
  refine Hd.take (i := 8) (v := ?tv89) hok rfl (by kernel_rfl) (fun _ _ _ h => h) (Or.inl ⟨by rfl, ?ty89⟩) (by assumption) ?tr89
  case ty89 => (intro w hSw; (try dsimp only at hSw); go_simp; (try with_reducible rfl))
  try simp only [List.getElem_toArray, List.getElem_cons_succ, List.getElem_cons_zero, Act.put, List.setIfInBounds_toArray, List.set_cons_zero, List.set_cons_succ]
  refine Hd.take (i := 12) (v := ?tv90) hok rfl (by kernel_rfl) (fun _ _ _ h => h) (Or.inl ⟨by rfl, ?ty90⟩) (by assumption) ?tr90
  case ty90 => (intro w hSw; (try dsimp only at hSw); go_simp; (try with_reducible rfl))
  try simp only [List.getElem_toArray, List.getElem_cons_succ, List.getElem_cons_zero, Act.put, List.setIfInBounds_toArray, List.set_cons_zero, List.set_cons_succ]
  refine Hd.take (i := 13) (v := ?tv91) hok rfl (by kernel_rfl) (fun _ _ _ h => h) (Or.inl ⟨by rfl, ?ty91⟩) (by assumption) ?tr91
  case ty91 => (intro w hSw; (try dsimp only at hSw); go_simp; (try with_reducible rfl))
  try simp only [List.getElem_toArray, List.getElem_cons_succ, List.getElem_cons_zero, Act.put, List.setIfInBounds_toArray, List.set_cons_zero, List.set_cons_succ]
  refine Hd.two (i := 2) (k := 9) rfl rfl (by kernel_rfl) (fun K hK => ?_) (fun K hK => ?_)
  · go_simp
    refine (text_any nm hnm wd).mono ?_
    rintro e w1 ⟨u2, rfl, hu2, hbx⟩
    dsimp only
    have hb1 := hb0.trans (hbx.out.mono hb0.size)
    have hSn := hV.out _ hb1
    refine hK _ _ hSn ?_
    clear hK K hbx
    try simp only [List.getElem_toArray, List.getElem_cons_succ, List.getElem_cons_zero, Act.put, List.setIfInBounds_toArray, List.set_cons_zero, List.set_cons_succ]
    refine Hd.one (i := 9) rfl (by kernel_rfl) (fun K hK => ?_)
    go_simp
    have hrd := rd_newN w1 [va, nx, hi] 23
    have hb2 := hb1.alloc hb1.size (.cells #[.int .u64 (va : Nat), .int .u64 (nx : Nat), .int .u64 (hi : Nat)] 23)
    simp only [List.map_cons, List.map_nil, encN] at hrd
    have hSn := hV.out _ hb2
    refine hK _ _ hSn ?_
    clear hK K
    try simp only [List.getElem_toArray, List.getElem_cons_succ, List.getElem_cons_zero, Act.put, List.setIfInBounds_toArray, List.set_cons_zero, List.set_cons_succ]
    generalize hsl : Value.slice (some ⟨w1.heap.size, 0, none⟩) 3 3 = sl at hrd ⊢
    generalize w1.alloc (.cells #[.int .u64 (va : Nat), .int .u64 (nx : Nat), .int .u64 (hi : Nat)] 23) = w2 at hrd hSn hb2 ⊢
    clear hsl
    refine Hd.one (i := 10) rfl (by kernel_rfl) (fun K hK => ?_)
    go_simp
    refine (nums_any sl [va, nx, hi] hnn (by simp) w2 hrd).mono ?_
    rintro e w3 ⟨u1, rfl, hu1, hbx⟩
    dsimp only
    have hb3 := hb2.trans (hbx.out.mono hb2.size)
    have hSn := hV.out _ hb3
    refine hK _ _ hSn ?_
    clear hK K hbx
    try simp only [List.getElem_toArray, List.getElem_cons_succ, List.getElem_cons_zero, Act.put, List.setIfInBounds_toArray, List.set_cons_zero, List.set_cons_succ]
    have hc1 := cat_ok hu2.out hu1.out hl1
    refine Hd.take (i := 11) (v := ?tv92) hok rfl (by kernel_rfl) (fun _ _ _ h => h) (Or.inl ⟨by rfl, ?ty92⟩) (by assumption) ?tr92
    case ty92 => (intro w hSw; (try dsimp only at hSw); go_simp; (try with_reducible rfl))
    try simp only [List.getElem_toArray, List.getElem_cons_succ, List.getElem_cons_zero, Act.put, List.setIfInBounds_toArray, List.set_cons_zero, List.set_cons_succ]
    clear hc1
    refine Hd.one (i := 14) rfl (by kernel_rfl) (fun K hK => ?_)
    go_simp
    refine (hls.out _ (hbW.out.trans (hb3.mono hbW.out.size))).mono ?_
    rintro e w4 ⟨u3, rfl, hu3, hbx⟩
    dsimp only
    have hb4 := hb3.trans (hbx.out.mono hb3.size)
    have hSn := hV.out _ hb4
    refine hK _ _ hSn ?_
    clear hK K hbx
    try simp only [List.getElem_toArray, List.getElem_cons_succ, List.getElem_cons_zero, Act.put, List.setIfInBounds_toArray, List.set_cons_zero, List.set_cons_succ]
    have hc2 := cat_ok3 hu2.out hu1.out hu3.out hl2
    refine Hd.take (i := 15) (v := ?tv93) hok rfl (by kernel_rfl) (fun _ _ _ h => h) (Or.inl ⟨by rfl, ?ty93⟩) (by assumption) ?tr93
    case ty93 => (intro w hSw; (try dsimp only at hSw); go_simp; (try with_reducible rfl))
    try simp only [List.getElem_toArray, List.getElem_cons_succ, List.getElem_cons_zero, Act.put, List.setIfInBounds_toArray, List.set_cons_zero, List.set_cons_succ]
    clear hc2
    refine Hd.done (by kernel_rfl) ?_
    simp only [List.drop_succ_cons, List.drop_zero]
    clear hSn hok hS0
    have hbE := Lib.hid (hbW.out.trans (hb4.mono hbW.out.size))
    have hfin : Hid (((u2 ++ u1) ++ u3).data.toList = boxI ⟨nm, va, nx, hi, rows.map LtV.x⟩) := Lib.hid (by
      rw [toList_app, toList_app, hu1.out, hu2.out, hu3.out]
      unfold boxI
      dsimp only
      rw [hlt]
      simp only [List.flatMap_cons, List.flatMap_nil, List.append_nil, List.append_assoc])
    go_wp2_with fail
    go_ret
    exact ⟨_, rfl, hfin, by first | exact hbE | (rw [← hBB]; exact hbE)⟩
  · go_simp
    have hrd := rd_newN wd [va, nx, hi] 23
    have hb1 := hb0.alloc hb0.size (.cells #[.int .u64 (va : Nat), .int .u64 (nx : Nat), .int .u64 (hi : Nat)] 23)
    simp only [List.map_cons, List.map_nil, encN] at hrd
    have hSn := hV.out _ hb1
    refine hK _ _ hSn ?_
    clear hK K
    try simp only [List.getElem_toArray, List.getElem_cons_succ, List.getElem_cons_zero, Act.put, List.setIfInBounds_toArray, List.set_cons_zero, List.set_cons_succ]
    generalize hsl : Value.slice (some ⟨wd.heap.size, 0, none⟩) 3 3 = sl at hrd ⊢
    generalize wd.alloc (.cells #[.int .u64 (va : Nat), .int .u64 (nx : Nat), .int .u64 (hi : Nat)] 23) = w1 at hrd hSn hb1 ⊢
    clear hsl
    have hrd0 := Lib.hid (fun w (h : Below w1.heap.size w1 w) => Rd.below hrd h)
    refine Hd.one (i := 2) rfl (by kernel_rfl) (fun K hK => ?_)
    go_simp
    refine (text_any nm hnm w1).mono ?_
    rintro e w2 ⟨u2, rfl, hu2, hbx⟩
    dsimp only
    have hb2 := hb1.trans (hbx.out.mono hb1.size)
    have hSn := hV.out _ hb2
    refine hK _ _ hSn ?_
    have hrd2 := hrd0.out _ hbx.out
    clear hK K hbx hrd0 hrd
    try simp only [List.getElem_toArray, List.getElem_cons_succ, List.getElem_cons_zero, Act.put, List.setIfInBounds_toArray, List.set_cons_zero, List.set_cons_succ]
    refine Hd.one (i := 10) rfl (by kernel_rfl) (fun K hK => ?_)
    go_simp
    refine (nums_any sl [va, nx, hi] hnn (by simp) w2 hrd2).mono ?_
    rintro e w3 ⟨u1, rfl, hu1, hbx⟩
    dsimp only
    have hb3 := hb2.trans (hbx.out.mono hb2.size)
    have hSn := hV.out _ hb3
    refine hK _ _ hSn ?_
    clear hK K hbx
    try simp only [List.getElem_toArray, List.getElem_cons_succ, List.getElem_cons_zero, Act.put, List.setIfInBounds_toArray, List.set_cons_zero, List.set_cons_succ]
    have hc1 := cat_ok hu2.out hu1.out hl1
    refine Hd.take (i := 11) (v := ?tv94) hok rfl (by kernel_rfl) (fun _ _ _ h => h) (Or.inl ⟨by rfl, ?ty94⟩) (by assumption) ?tr94
    case ty94 => (intro w hSw; (try dsimp only at hSw); go_simp; (try with_reducible rfl))
    try simp only [List.getElem_toArray, List.getElem_cons_succ, List.getElem_cons_zero, Act.put, List.setIfInBounds_toArray, List.set_cons_zero, List.set_cons_succ]
    clear hc1
    refine Hd.one (i := 14) rfl (by kernel_rfl) (fun K hK => ?_)
    go_simp
    refine (hls.out _ (hbW.out.trans (hb3.mono hbW.out.size))).mono ?_
    rintro e w4 ⟨u3, rfl, hu3, hbx⟩
    dsimp only
    have hb4 := hb3.trans (hbx.out.mono hb3.size)
    have hSn := hV.out _ hb4
    refine hK _ _ hSn ?_
    clear hK K hbx
    try simp only [List.getElem_toArray, List.getElem_cons_succ, List.getElem_cons_zero, Act.put, List.setIfInBounds_toArray, List.set_cons_zero, List.set_cons_succ]
    have hc2 := cat_ok3 hu2.out hu1.out hu3.out hl2
    refine Hd.take (i := 15) (v := ?tv95) hok rfl (by kernel_rfl) (fun _ _ _ h => h) (Or.inl ⟨by rfl, ?ty95⟩) (by assumption) ?tr95
    case ty95 => (intro w hSw; (try dsimp only at hSw); go_simp; (try with_reducible rfl))
    try simp only [List.getElem_toArray, List.getElem_cons_succ, List.getElem_cons_zero, Act.put, List.setIfInBounds_toArray, List.set_cons_zero, List.set_cons_succ]
    clear hc2
    refine Hd.done (by kernel_rfl) ?_
    simp only [List.drop_succ_cons, List.drop_zero]
    clear hSn hok hS0
    have hbE := Lib.hid (hbW.out.trans (hb4.mono hbW.out.size))
    have hfin : Hid (((u2 ++ u1) ++ u3).data.toList = boxI ⟨nm, va, nx, hi, rows.map LtV.x⟩) := Lib.hid (by
      rw [toList_app, toList_app, hu1.out, hu2.out, hu3.out]
      unfold boxI
      dsimp only
      rw [hlt]
      simp only [List.flatMap_cons, List.flatMap_nil, List.append_nil, List.append_assoc])
    go_wp2_with fail
    go_ret
    exact ⟨_, rfl, hfin, by first | exact hbE | (rw [← hBB]; exact hbE)⟩

end Go.Proofs.YtpkaoiadjffjiaaGreat
namespace Go.Proofs.YtpkaoiadjffjiaaGreat
set_option linter.unusedSimpArgs false
open Go.RowKit
attribute [local go_sem ↓] Go.wp_at_zero Go.wp_at_succ

/-- the answer of Encode: a right state's image, or ErrArg -/
def EncRet (m : Ml) (W : World) (e : Ending) (w' : World) : Prop := ∃ (u : ByteArray) (c : Nat), e = .returned (.tuple #[.string u, .int .i64 c]) ∧ (c = 0 ∧ RightP m ∧ u.data.toList = imageL m ∨ c = 1 ∧ ¬ RightP m) ∧ Hid (Below W.heap.size W w')
theorem cat_ok4 {u v x y : ByteArray} {a b c d : List UInt8} (hu : u.data.toList = a) (hv : v.data.toList = b) (hx : x.data.toList = c) (hy : y.data.toList = d) (h : a.length + b.length + c.length + d.length ≤ 1000000000) : ¬ 9223372036854775807 < u.size + v.size + x.size + y.size := by
  rw [size_len, size_len, size_len, size_len, hu, hv, hx, hy]; omega
set_option maxRecDepth 100000 in
set_option maxHeartbeats 8000000 in
theorem encode_any {W : World} (v : Value) {m : Ml} (hin : MlIn W v m) (hsz : AnySz m) (hnum : RightP m → NumsOk m) : Calls Tryz.prog 7 #[v] W (EncRet m W) := by
  have hin0 : Hid (∀ w', Below W.heap.size W w' → MlIn w' v m) := Lib.hid (fun w' h => hin.below h)
  obtain ⟨vb, vh, vs, bs, rfl, hbs, hib, hih, his⟩ := hin
  have hib0 := Lib.hid (fun w' (h : Below W.heap.size W w') => hib.below h)
  have hih0 := Lib.hid (fun w' (h : Below W.heap.size W w') => Rd.below hih h)
  have his0 := Lib.hid (fun w' (h : Below W.heap.size W w') => Rd.below his h)
  obtain ⟨ab, cb, rfl, -⟩ := hib.1
  obtain ⟨ah, ch, rfl, -⟩ := hih
  obtain ⟨as_, cs, rfl, -⟩ := his
  unfold mlVal at hin0 ⊢
  have hz1 := (Zoo.nil W).newBox [.slice ab bs.length cb, .int .u64 m.nv, .slice ah m.homes.length ch, .slice as_ m.seats.length cs, .int .u64 m.ns, .int .u64 m.sweeps].toArray 27
  generalize hMB : W.heap.size = MB at hz1
  generalize hWa : (W.alloc (.cells [.slice ab bs.length cb, .int .u64 m.nv, .slice ah m.homes.length ch, .slice as_ m.seats.length cs, .int .u64 m.ns, .int .u64 m.sweeps].toArray 27)) = Wa at hz1
  have hbW := Lib.hid hz1.bel
  have hrt := Lib.hid (rightM_any _ (hin0.out Wa hz1.bel) hsz)
  obtain ⟨hbM, -⟩ := hz1.box 0 rfl
  have x0 : Wa.cell? ⟨MB, 0, none⟩ = some (.slice ab bs.length cb) := box_cell hbM 0
  have x1 : Wa.cell? ⟨MB, 1, none⟩ = some (.int .u64 m.nv) := box_cell hbM 1
  have x2 : Wa.cell? ⟨MB, 2, none⟩ = some (.slice ah m.homes.length ch) := box_cell hbM 2
  have x3 : Wa.cell? ⟨MB, 3, none⟩ = some (.slice as_ m.seats.length cs) := box_cell hbM 3
  have x4 : Wa.cell? ⟨MB, 4, none⟩ = some (.int .u64 m.ns) := box_cell hbM 4
  have x5 : Wa.cell? ⟨MB, 5, none⟩ = some (.int .u64 m.sweeps) := box_cell hbM 5
  have hV : Hid (∀ w', Below Wa.heap.size Wa w' → w'.cell? ⟨MB, 0, none⟩ = some (.slice ab bs.length cb) ∧ w'.cell? ⟨MB, 1, none⟩ = some (.int .u64 m.nv) ∧ w'.cell? ⟨MB, 2, none⟩ = some (.slice ah m.homes.length ch) ∧ w'.cell? ⟨MB, 3, none⟩ = some (.slice as_ m.seats.length cs) ∧ w'.cell? ⟨MB, 4, none⟩ = some (.int .u64 m.ns) ∧ w'.cell? ⟨MB, 5, none⟩ = some (.int .u64 m.sweeps)) := Lib.hid (fun w' hB => by
    have h1 := bel_heapR hB hbM
    exact ⟨box_cell h1 0, box_cell h1 1, box_cell h1 2, box_cell h1 3, box_cell h1 4, box_cell h1 5⟩)
  replace hbs := Lib.hid hbs
  replace hnum := Lib.hid hnum
  clear hz1 hib hbM
  go_enter Tryz.func7, Tryz.ntmps7
  go_upto_region 1 with fail
  clear hWa
  go_wp2_with fail
  refine hrt.out.mono ?_
  rintro e w1 ⟨B, rfl, hB, hb1⟩
  dsimp only
  clear hrt x0 x1 x2 x3 x4 x5
  cases B with
  | false =>
    have hno : Hid (¬ RightP m) := Lib.hid (fun h => by have := hB.out.2 h; cases this)
    have hbE := Lib.hid (hbW.out.trans (hb1.out.mono hbW.out.size))
    clear hB hb1
    go_wp2_with fail
    go_ret2
    exact ⟨_, 1, rfl, .inr ⟨rfl, hno.out⟩, by first | exact hbE | (rw [← hMB]; exact hbE)⟩
  | true =>
  have hyes := Lib.hid (hB.out.1 rfl)
  have hok2 := hyes.out.image_ok (hnum.out hyes.out)
  have hnn : ∀ x ∈ [1, m.nv, m.ns, m.sweeps], x < 18446744073709551616 := fun x hx => by
    simp only [List.mem_cons, List.not_mem_nil, or_false] at hx
    rcases hx with rfl | rfl | rfl | rfl
    · decide
    · exact lt64 hok2.1
    · exact lt64 hok2.2.1
    · exact lt64 hok2.2.2.1
  have hl1 := nums_len [1, m.nv, m.ns, m.sweeps] hnn
  have hl2 := listL_len boxI 8 24242 m.boxes hok2.2.2.2.1.1 (by decide) (fun x hx => boxI_len (hok2.2.2.2.1.2 x hx))
  have hl3 := listL_len homeI 5 30 m.homes hok2.2.2.2.2.1.1 (by decide) (fun x hx => homeI_len (hok2.2.2.2.2.1.2 x hx))
  have hl4 := listL_len seatI 16 50 m.seats hok2.2.2.2.2.2.1 (by decide) (fun x hx => seatI_len (hok2.2.2.2.2.2.2 x hx))
  have hlb : bs.length ≤ 8 := by have := hok2.2.2.2.1.1; rwa [← hbs.out, List.length_map] at this
  have hle : listL (fun y : BxV => boxI y.b) bs = listL boxI m.boxes := by
    rw [← hbs.out]
    unfold listL
    rw [List.length_map, List.flatMap_map]
  have hcb := Lib.hid (fun w (h : Below W.heap.size W w) => by
    have h1 := hib0.out w h
    have h2 := list_box_any (fun y : BxV => boxI y.b) (.slice ab bs.length cb) bs w h1.1 (by omega) (fun y hy w2 hb2 => boxI_any y w2 (hok2.2.2.2.1.2 y.b (by rw [← hbs.out]; exact List.mem_map.2 ⟨y, hy, rfl⟩)) ((h1.2 y hy).below hb2)) (by rw [hle]; omega)
    rw [hle] at h2
    exact h2)
  have hch := Lib.hid (fun w (h : Below W.heap.size W w) => list_home_any homeI (.slice ah m.homes.length ch) m.homes w (hih0.out w h) (by have := hok2.2.2.2.2.1.1; omega) (fun y hy w2 _ => homeI_any y w2 (hok2.2.2.2.2.1.2 y hy)) (by omega))
  have hcs := Lib.hid (fun w (h : Below W.heap.size W w) => list_seat_any seatI (.slice as_ m.seats.length cs) m.seats w (his0.out w h) (by have := hok2.2.2.2.2.2.1; omega) (fun y hy w2 _ => seatI_any y w2 (hok2.2.2.2.2.2.2 y hy)) (by omega))
  have hsum : Hid (([1, m.nv, m.ns, m.sweeps].flatMap numL).length ≤ 1000 ∧ (listL boxI m.boxes).length ≤ 300000 ∧ (listL homeI m.homes).length ≤ 1000 ∧ (listL seatI m.seats).length ≤ 1000) := Lib.hid ⟨by simp only [List.length_cons, List.length_nil] at hl1; omega, by omega, by omega, by omega⟩
  have himg : Hid (imageL m = (([1, m.nv, m.ns, m.sweeps].flatMap numL ++ listL boxI m.boxes) ++ listL homeI m.homes) ++ listL seatI m.seats) := Lib.hid (by
    unfold imageL
    simp only [List.flatMap_cons, List.flatMap_nil, List.append_nil, List.append_assoc])
  generalize listL boxI m.boxes = LB at hcb hsum himg
  generalize listL homeI m.homes = LH at hch hsum himg
  generalize listL seatI m.seats = LS at hcs hsum himg
  clear hB hle hlb hl1 hl2 hl3 hl4 hok2 hsz
  go_upto_region 3 with fail
  have hb0 := hb1.out.drew
  have hbw0 := hbW.out
  refine wp_region_hd (fun w' => w'.cell? ⟨MB, 0, none⟩ = some (.slice ab bs.length cb) ∧ w'.cell? ⟨MB, 1, none⟩ = some (.int .u64 m.nv) ∧ w'.cell? ⟨MB, 2, none⟩ = some (.slice ah m.homes.length ch) ∧ w'.cell? ⟨MB, 3, none⟩ = some (.slice as_ m.seats.length cs) ∧ w'.cell? ⟨MB, 4, none⟩ = some (.int .u64 m.ns) ∧ w'.cell? ⟨MB, 5, none⟩ = some (.int .u64 m.sweeps)) 20 2 (by kernel_rfl) rfl ⟨by kernel_rfl, by kernel_rfl, by kernel_rfl, by decide⟩ (hV.out _ hb0) (fun hok hS0 => ?_)
  generalize w1.drew = wd at *
  clear hb1
  refine Hd.take (i := 0) (v := ?tv1) hok rfl (by kernel_rfl) (fun _ _ _ h => h) (Or.inl ⟨by rfl, ?ty1⟩) (by assumption) ?tr1
  case ty1 => (intro w hSw; (try dsimp only at hSw); go_simp; (try with_reducible rfl))
  try simp only [List.getElem_toArray, List.getElem_cons_succ, List.getElem_cons_zero, Act.put, List.setIfInBounds_toArray, List.set_cons_zero, List.set_cons_succ]
  refine Hd.take (i := 1) (v := ?tv2) hok rfl (by kernel_rfl) (fun _ _ _ h => h) (Or.inl ⟨by rfl, ?ty2⟩) (by assumption) ?tr2
  case ty2 => (intro w hSw; (try dsimp only at hSw); go_simp; (try with_reducible rfl))
  try simp only [List.getElem_toArray, List.getElem_cons_succ, List.getElem_cons_zero, Act.put, List.setIfInBounds_toArray, List.set_cons_zero, List.set_cons_succ]
  refine Hd.take (i := 2) (v := ?tv3) hok rfl (by kernel_rfl) (fun _ _ _ h => h) (Or.inl ⟨by rfl, ?ty3⟩) (by assumption) ?tr3
  case ty3 => (intro w hSw; (try dsimp only at hSw); go_simp; (try with_reducible rfl))
  try simp only [List.getElem_toArray, List.getElem_cons_succ, List.getElem_cons_zero, Act.put, List.setIfInBounds_toArray, List.set_cons_zero, List.set_cons_succ]
  refine Hd.take (i := 3) (v := ?tv4) hok rfl (by kernel_rfl) (fun _ _ _ h => h) (Or.inl ⟨by rfl, ?ty4⟩) (by assumption) ?tr4
  case ty4 => (intro w hSw; (try dsimp only at hSw); go_simp; (try with_reducible rfl))
  try simp only [List.getElem_toArray, List.getElem_cons_succ, List.getElem_cons_zero, Act.put, List.setIfInBounds_toArray, List.set_cons_zero, List.set_cons_succ]
  refine Hd.take (i := 4) (v := ?tv5) hok rfl (by kernel_rfl) (fun _ _ _ h => h) (Or.inl ⟨by rfl, ?ty5⟩) (by assumption) ?tr5
  case ty5 => (intro w hSw; (try dsimp only at hSw); go_simp; (try with_reducible rfl))
  try simp only [List.getElem_toArray, List.getElem_cons_succ, List.getElem_cons_zero, Act.put, List.setIfInBounds_toArray, List.set_cons_zero, List.set_cons_succ]
  refine Hd.take (i := 5) (v := ?tv6) hok rfl (by kernel_rfl) (fun _ _ _ h => h) (Or.inl ⟨by rfl, ?ty6⟩) (by assumption) ?tr6
  case ty6 => (intro w hSw; (try dsimp only at hSw); go_simp; (try with_reducible rfl))
  try simp only [List.getElem_toArray, List.getElem_cons_succ, List.getElem_cons_zero, Act.put, List.setIfInBounds_toArray, List.set_cons_zero, List.set_cons_succ]
  refine Hd.take (i := 8) (v := ?tv7) hok rfl (by kernel_rfl) (fun _ _ _ h => h) (Or.inl ⟨by rfl, ?ty7⟩) (by assumption) ?tr7
  case ty7 => (intro w hSw; (try dsimp only at hSw); go_simp; (try with_reducible rfl))
  try simp only [List.getElem_toArray, List.getElem_cons_succ, List.getElem_cons_zero, Act.put, List.setIfInBounds_toArray, List.set_cons_zero, List.set_cons_succ]
  refine Hd.take (i := 9) (v := ?tv8) hok rfl (by kernel_rfl) (fun _ _ _ h => h) (Or.inl ⟨by rfl, ?ty8⟩) (by assumption) ?tr8
  case ty8 => (intro w hSw; (try dsimp only at hSw); go_simp; (try with_reducible rfl))
  try simp only [List.getElem_toArray, List.getElem_cons_succ, List.getElem_cons_zero, Act.put, List.setIfInBounds_toArray, List.set_cons_zero, List.set_cons_succ]
  refine Hd.take (i := 12) (v := ?tv9) hok rfl (by kernel_rfl) (fun _ _ _ h => h) (Or.inl ⟨by rfl, ?ty9⟩) (by assumption) ?tr9
  case ty9 => (intro w hSw; (try dsimp only at hSw); go_simp; (try with_reducible rfl))
  try simp only [List.getElem_toArray, List.getElem_cons_succ, List.getElem_cons_zero, Act.put, List.setIfInBounds_toArray, List.set_cons_zero, List.set_cons_succ]
  refine Hd.take (i := 13) (v := ?tv10) hok rfl (by kernel_rfl) (fun _ _ _ h => h) (Or.inl ⟨by rfl, ?ty10⟩) (by assumption) ?tr10
  case ty10 => (intro w hSw; (try dsimp only at hSw); go_simp; (try with_reducible rfl))
  try simp only [List.getElem_toArray, List.getElem_cons_succ, List.getElem_cons_zero, Act.put, List.setIfInBounds_toArray, List.set_cons_zero, List.set_cons_succ]
  refine Hd.take (i := 16) (v := ?tv11) hok rfl (by kernel_rfl) (fun _ _ _ h => h) (Or.inl ⟨by rfl, ?ty11⟩) (by assumption) ?tr11
  case ty11 => (intro w hSw; (try dsimp only at hSw); go_simp; (try with_reducible rfl))
  try simp only [List.getElem_toArray, List.getElem_cons_succ, List.getElem_cons_zero, Act.put, List.setIfInBounds_toArray, List.set_cons_zero, List.set_cons_succ]
  refine Hd.take (i := 17) (v := ?tv12) hok rfl (by kernel_rfl) (fun _ _ _ h => h) (Or.inl ⟨by rfl, ?ty12⟩) (by assumption) ?tr12
  case ty12 => (intro w hSw; (try dsimp only at hSw); go_simp; (try with_reducible rfl))
  try simp only [List.getElem_toArray, List.getElem_cons_succ, List.getElem_cons_zero, Act.put, List.setIfInBounds_toArray, List.set_cons_zero, List.set_cons_succ]
  refine Hd.one (i := 6) rfl (by kernel_rfl) (fun K hK => ?_)
  go_simp
  have hrd := rd_newN wd [1, m.nv, m.ns, m.sweeps] 23
  have hb2 := hb0.alloc hb0.size (.cells #[.int .u64 1, .int .u64 (m.nv : Nat), .int .u64 (m.ns : Nat), .int .u64 (m.sweeps : Nat)] 23)
  simp only [List.map_cons, List.map_nil, encN] at hrd
  have hSn := hV.out _ hb2
  refine hK _ _ hSn ?_
  clear hK K
  try simp only [List.getElem_toArray, List.getElem_cons_succ, List.getElem_cons_zero, Act.put, List.setIfInBounds_toArray, List.set_cons_zero, List.set_cons_succ]
  have hcall := nums_any _ [1, m.nv, m.ns, m.sweeps] hnn (by simp) _ hrd
  simp only [List.length_cons, List.length_nil, Nat.zero_add, Nat.reduceAdd] at hcall
  replace hcall := Lib.hid hcall
  generalize Value.slice (some ⟨wd.heap.size, 0, none⟩) 4 4 = sl at hcall ⊢
  clear hrd
  have hb2' := hb2
  refine Hd.one (i := 7) rfl (by kernel_rfl) (fun K hK => ?_)
  go_simp
  refine hcall.out.mono ?_
  rintro e w3 ⟨u1, rfl, hu1, hbx⟩
  dsimp only
  have hb3 := hb2.trans (hbx.out.mono hb2.size)
  have hSn := hV.out _ hb3
  refine hK _ _ hSn ?_
  clear hK K hbx hcall hb2 hb2'
  try simp only [List.getElem_toArray, List.getElem_cons_succ, List.getElem_cons_zero, Act.put, List.setIfInBounds_toArray, List.set_cons_zero, List.set_cons_succ]
  refine Hd.one (i := 10) rfl (by kernel_rfl) (fun K hK => ?_)
  go_simp
  refine (hcb.out _ (hbw0.trans (hb3.mono hbw0.size))).mono ?_
  rintro e w4 ⟨u2, rfl, hu2, hbx⟩
  dsimp only
  have hb4 := hb3.trans (hbx.out.mono hb3.size)
  have hSn := hV.out _ hb4
  refine hK _ _ hSn ?_
  clear hK K hbx
  try simp only [List.getElem_toArray, List.getElem_cons_succ, List.getElem_cons_zero, Act.put, List.setIfInBounds_toArray, List.set_cons_zero, List.set_cons_succ]
  have hc1 := cat_ok hu1.out hu2.out (by have h1 := hsum.out.1; have h2 := hsum.out.2.1; omega)
  refine Hd.take (i := 11) (v := ?tv13) hok rfl (by kernel_rfl) (fun _ _ _ h => h) (Or.inl ⟨by rfl, ?ty13⟩) (by assumption) ?tr13
  case ty13 => (intro w hSw; (try dsimp only at hSw); go_simp; (try with_reducible rfl))
  try simp only [List.getElem_toArray, List.getElem_cons_succ, List.getElem_cons_zero, Act.put, List.setIfInBounds_toArray, List.set_cons_zero, List.set_cons_succ]
  clear hc1
  refine Hd.one (i := 14) rfl (by kernel_rfl) (fun K hK => ?_)
  go_simp
  refine (hch.out _ (hbw0.trans (hb4.mono hbw0.size))).mono ?_
  rintro e w5 ⟨u3, rfl, hu3, hbx⟩
  dsimp only
  have hb5 := hb4.trans (hbx.out.mono hb4.size)
  have hSn := hV.out _ hb5
  refine hK _ _ hSn ?_
  clear hK K hbx
  try simp only [List.getElem_toArray, List.getElem_cons_succ, List.getElem_cons_zero, Act.put, List.setIfInBounds_toArray, List.set_cons_zero, List.set_cons_succ]
  have hc2 := cat_ok3 hu1.out hu2.out hu3.out (by rw [List.length_append]; have h1 := hsum.out.1; have h2 := hsum.out.2.1; have h3 := hsum.out.2.2.1; omega)
  refine Hd.take (i := 15) (v := ?tv14) hok rfl (by kernel_rfl) (fun _ _ _ h => h) (Or.inl ⟨by rfl, ?ty14⟩) (by assumption) ?tr14
  case ty14 => (intro w hSw; (try dsimp only at hSw); go_simp; (try with_reducible rfl))
  try simp only [List.getElem_toArray, List.getElem_cons_succ, List.getElem_cons_zero, Act.put, List.setIfInBounds_toArray, List.set_cons_zero, List.set_cons_succ]
  clear hc2
  refine Hd.one (i := 18) rfl (by kernel_rfl) (fun K hK => ?_)
  go_simp
  refine (hcs.out _ (hbw0.trans (hb5.mono hbw0.size))).mono ?_
  rintro e w6 ⟨u4, rfl, hu4, hbx⟩
  dsimp only
  have hb6 := hb5.trans (hbx.out.mono hb5.size)
  have hSn := hV.out _ hb6
  refine hK _ _ hSn ?_
  clear hK K hbx
  try simp only [List.getElem_toArray, List.getElem_cons_succ, List.getElem_cons_zero, Act.put, List.setIfInBounds_toArray, List.set_cons_zero, List.set_cons_succ]
  have hc3 := cat_ok4 hu1.out hu2.out hu3.out hu4.out (by have h1 := hsum.out.1; have h2 := hsum.out.2.1; have h3 := hsum.out.2.2.1; have h4 := hsum.out.2.2.2; omega)
  refine Hd.take (i := 19) (v := ?tv15) hok rfl (by kernel_rfl) (fun _ _ _ h => h) (Or.inl ⟨by rfl, ?ty15⟩) (by assumption) ?tr15
  case ty15 => (intro w hSw; (try dsimp only at hSw); go_simp; (try with_reducible rfl))
  try simp only [List.getElem_toArray, List.getElem_cons_succ, List.getElem_cons_zero, Act.put, List.setIfInBounds_toArray, List.set_cons_zero, List.set_cons_succ]
  clear hc3
  refine Hd.done (by kernel_rfl) ?_
  simp only [List.drop_succ_cons, List.drop_zero]
  clear hSn hok hS0
  have hbE := Lib.hid (hbw0.trans (hb6.mono hbw0.size))
  have hfin : Hid ((((u1 ++ u2) ++ u3) ++ u4).data.toList = imageL m) := Lib.hid (by rw [himg.out, toList_app, toList_app, toList_app, hu1.out, hu2.out, hu3.out, hu4.out])
  go_wp2_with fail
  go_ret2
  exact ⟨_, 0, rfl, .inl ⟨rfl, hyes.out, hfin.out⟩, by first | exact hbE | (rw [← hMB]; exact hbE)⟩
end Go.Proofs.YtpkaoiadjffjiaaGreat
