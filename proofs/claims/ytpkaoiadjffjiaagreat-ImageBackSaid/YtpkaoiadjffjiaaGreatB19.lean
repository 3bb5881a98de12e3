/- image's Decode: walked. (written by tools/gen_ImJ.py) alive of layer 19: walked. -/
import Derived.Test.YtpkaoiadjffjiaaGreatB18
import Derived.Test.YtpkaoiadjffjiaaGreatB11
import Derived.Test.YtpkaoiadjffjiaaGreatB12
import Derived.Test.YtpkaoiadjffjiaaGreatB14
import Derived.Test.YtpkaoiadjffjiaaGreatB16
import Derived.Test.YtpkaoiadjffjiaaGreatB08
import Derived.BigQuiet
import Derived.Deep.QuietTactic
import Derived.Deep.RegionWith
namespace Go.Proofs.YtpkaoiadjffjiaaGreat
set_option linter.unusedSimpArgs false
open Go.RowKit
attribute [local go_sem ↓] Go.wp_at_zero Go.wp_at_succ

theorem rMany_len {α : Type} (rd : PS → α × PS) (s : PS) : ∀ k, (rMany rd k s).1.length = k
  | 0 => rfl
  | k + 1 => by rw [rMany_succ]; dsimp only; rw [List.length_append, rMany_len rd s k]; rfl
theorem rMany_all {α : Type} {P : α → Prop} {rd : PS → α × PS} (h : ∀ s, P (rd s).1) (s : PS) : ∀ k, ∀ x ∈ (rMany rd k s).1, P x
  | 0, x, hx => (by cases hx)
  | k + 1, x, hx => by
    rw [rMany_succ] at hx
    rcases List.mem_append.1 hx with hx | hx
    · exact rMany_all h s k x hx
    · rw [List.mem_singleton.1 hx]; exact h _
theorem rList_len {α : Type} (most : Nat) (rd : PS → α × PS) (s : PS) : (rList most rd s).1.length ≤ most := by
  unfold rList; rw [rMany_len]; exact rNum_le most s
theorem rList_all {α : Type} {P : α → Prop} {rd : PS → α × PS} (h : ∀ s, P (rd s).1) (most : Nat) (s : PS) : ∀ x ∈ (rList most rd s).1, P x := rMany_all h _ _
theorem rText_len (most : Nat) (s : PS) : (rText most s).1.length ≤ most := by
  unfold rText
  split
  · split
    · rename_i h; rw [List.length_take]; have := h.1; omega
    · exact Nat.zero_le _
  · exact Nat.zero_le _
theorem letterR_sz (s : PS) : (letterR s).1.flags.length ≤ 10000 ∧ Sized (letterR s).1.flags := by
  have h1 : (letterR s).1.flags = (rList 16 (rText 32) (rText 32 (rNum M64 (rNum M64 (rNum M64 s).2).2).2).2).1 := rfl
  rw [h1]
  refine ⟨by have := rList_len 16 (rText 32) (rText 32 (rNum M64 (rNum M64 (rNum M64 s).2).2).2).2; omega, fun x hx => ?_⟩
  have := rList_all (P := fun t : List UInt8 => t.length ≤ 32) (fun s => rText_len 32 s) 16 _ x hx
  show x.length ≤ maxLen
  unfold maxLen
  omega
theorem boxR_sz (s : PS) : (boxR s).1.name.size ≤ maxLen ∧ (boxR s).1.letters.length ≤ 100000 ∧ ∀ x ∈ (boxR s).1.letters, x.flags.length ≤ 10000 ∧ Sized x.flags := by
  have h1 : (boxR s).1.letters = (rList 32 letterR (rNum M64 (rNum M64 (rNum M64 (rText 64 s).2).2).2).2).1 := rfl
  have h2 : (boxR s).1.name = mkB (rText 64 s).1 := rfl
  rw [h1, h2]
  refine ⟨?_, by have := rList_len 32 letterR (rNum M64 (rNum M64 (rNum M64 (rText 64 s).2).2).2).2; omega, rList_all (P := fun x : Lt => x.flags.length ≤ 10000 ∧ Sized x.flags) letterR_sz 32 _⟩
  have := rText_len 64 s
  show (rText 64 s).1.length ≤ maxLen
  unfold maxLen
  omega
/-- what is read, of whatever bytes, is of some size -/
theorem imageR_sz (s : PS) : AnySz (imageR s).1.2 ∧ NumsOk (imageR s).1.2 := by
  have hb : (imageR s).1.2.boxes = (rList 8 boxR (rNum M64 (rNum M64 (rNum M64 (rNum M64 s).2).2).2).2).1 := rfl
  generalize (rNum M64 (rNum M64 (rNum M64 (rNum M64 s).2).2).2).2 = c at hb
  obtain ⟨d, hd⟩ : ∃ d, (imageR s).1.2.homes = (rList 5 homeR d).1 := ⟨_, rfl⟩
  obtain ⟨f, hf⟩ : ∃ f, (imageR s).1.2.seats = (rList 16 seatR f).1 := ⟨_, rfl⟩
  have hbx := rList_all (P := fun b : Bx => b.name.size ≤ maxLen ∧ b.letters.length ≤ 100000 ∧ ∀ x ∈ b.letters, x.flags.length ≤ 10000 ∧ Sized x.flags) boxR_sz 8 c
  refine ⟨⟨by rw [hb]; have := rList_len 8 boxR c; omega, by rw [hd]; have := rList_len 5 homeR d; omega, by rw [hf]; have := rList_len 16 seatR f; omega, fun b h => ?_, fun b h => ?_, fun b h => ?_⟩, ⟨fun h hh => ?_, fun x hx => ?_⟩⟩
  · rw [hb] at h; exact (hbx b h).1
  · rw [hb] at h; exact (hbx b h).2.1
  · rw [hb] at h; exact (hbx b h).2.2
  · rw [hd] at hh
    exact rList_all (P := fun h : Hm => h.life ≤ M64 ∧ h.try_ ≤ M64) (fun s => ⟨rNum_le _ _, rNum_le _ _⟩) 5 d h hh
  · rw [hf] at hx
    exact rList_all (P := fun x : St => x.last ≤ M64) (fun s => rNum_le _ _) 16 f x hx
theorem openR_any (s : ByteArray) (w : World) : Calls Tryz.prog 21 #[.string s] w fun e w' => e = .returned (.pointer (some ⟨w.heap.size, 0, none⟩)) ∧ w' = w.alloc (.cells (rdC s 0 0) 89) := by
  go_enter Tryz.func21, Tryz.ntmps21
  go_wp2_with fail
  go_ret
  exact ⟨rfl, rfl⟩
theorem Stay.kp {Rb n : Nat} {w w' : World} {P : World → Prop} (h : Stay (fun k => n ≤ k) w P) (hk : Kp Rb w w') (hR : Rb < n) : Stay (fun k => n ≤ k) w' P :=
  h.on hk.size (fun k hk2 hl => hk.block k hl (by have h2 : n ≤ k := hk2; omega))
/-- two results, the first in a block of its own -/
theorem results_cell_tmp_rowI {fn : Func} {p u : Tmp} {ty t : TypeId} (h : fn.results = #[.cell p ty, .tmp u]) (tmps : Array Value) (w : World) (B : Nat) (C : List Value) (hp : tmps.getD p undef = .pointer (some ⟨B, 0, none⟩)) (hb : w.heap[B]? = some (.cells C.toArray t (0, 0))) (hagg : ∀ w, (isAgg ty).run Tryz.prog w = .ok true w) (hsz : ∀ w, (Go.sizeOf ty).run Tryz.prog w = .ok C.length w) : (results fn tmps).run Tryz.prog w = .ok (.tuple #[.agg C.toArray, tmps.getD u undef]) w := by
  rw [results_cell_tmp h, hp]
  have := run_loadCells_list (P := Tryz.prog) w ⟨B, 0, none⟩ C (fun j v hj => by rw [Addr.add_lit, Nat.zero_add, box_cell hb j]; simpa using hj)
  simp [asAddr, loadVar, hagg, hsz, this, Result.andThen]
/-- is a text an image -/
def IsImage (s : ByteArray) : Prop := (imageR (some s.data.toList)).2 = some [] ∧ (imageR (some s.data.toList)).1.1 = 1 ∧ RightP (imageR (some s.data.toList)).1.2
def zeroMl : Value := .agg #[.slice none 0 0, .int .u64 0, .slice none 0 0, .slice none 0 0, .int .u64 0, .int .u64 0]
def DecRet (s : ByteArray) (W : World) (e : Ending) (w' : World) : Prop := ∃ (v : Value) (c : Nat), e = .returned (.tuple #[v, .int .i64 c]) ∧ (c = 0 ∧ IsImage s ∧ MlIn w' v (imageR (some s.data.toList)).1.2 ∨ c = 4 ∧ ¬ IsImage s ∧ v = zeroMl) ∧ Hid (Below W.heap.size W w')
set_option maxRecDepth 100000 in
set_option maxHeartbeats 16000000 in
theorem decode_any (s : ByteArray) (hs : s.size ≤ 1000000000000) (W : World) : Calls Tryz.prog 8 #[.string s] W (DecRet s W) := by
  obtain ⟨⟨vn, p0⟩, hq⟩ : ∃ p, rNum M64 (some s.data.toList) = p := ⟨_, rfl⟩
  obtain ⟨⟨n0, p1⟩, he0⟩ : ∃ p, rNum M64 p0 = p := ⟨_, rfl⟩
  obtain ⟨⟨n1, p2⟩, he1⟩ : ∃ p, rNum M64 p1 = p := ⟨_, rfl⟩
  obtain ⟨⟨n2, p3⟩, he2⟩ : ∃ p, rNum M64 p2 = p := ⟨_, rfl⟩
  obtain ⟨⟨lb, p4⟩, he3⟩ : ∃ p, rList 8 boxR p3 = p := ⟨_, rfl⟩
  obtain ⟨⟨lh, p5⟩, he4⟩ : ∃ p, rList 5 homeR p4 = p := ⟨_, rfl⟩
  obtain ⟨⟨ls, p6⟩, he5⟩ : ∃ p, rList 16 seatR p5 = p := ⟨_, rfl⟩
  have himg : imageR (some s.data.toList) = ((vn, ⟨lb, n0, lh, ls, n1, n2⟩), p6) := by
    unfold imageR
    simp only [hq, he0, he1, he2, he3, he4, he5]
  have hsz := imageR_sz (some s.data.toList)
  rw [himg] at hsz
  dsimp only at hsz
  have hI : Hid (IsImage s ↔ p6 = some [] ∧ vn = 1 ∧ RightP ⟨lb, n0, lh, ls, n1, n2⟩) := Lib.hid (by unfold IsImage; rw [himg])
  have hm : Hid ((imageR (some s.data.toList)).1.2 = ⟨lb, n0, lh, ls, n1, n2⟩) := Lib.hid (by rw [himg])
  replace hsz := Lib.hid hsz.1
  replace hq := Lib.hid hq
  replace he0 := Lib.hid he0
  replace he1 := Lib.hid he1
  replace he2 := Lib.hid he2
  replace he3 := Lib.hid he3
  replace he4 := Lib.hid he4
  replace he5 := Lib.hid he5
  clear himg
  -- the result's block
  have hb0 := (Below.refl W.heap.size W).alloc (Nat.le_refl _) (.cells #[.slice none 0 0, .int .u64 0, .slice none 0 0, .slice none 0 0, .int .u64 0, .int .u64 0] 27)
  have hB2 := heap_newI W (.cells #[.slice none 0 0, .int .u64 0, .slice none 0 0, .slice none 0 0, .int .u64 0, .int .u64 0] 27)
  generalize hB2e : W.heap.size = B2 at hB2
  generalize hW0 : W.alloc (.cells #[.slice none 0 0, .int .u64 0, .slice none 0 0, .slice none 0 0, .int .u64 0, .int .u64 0] 27) = w0 at hb0 hB2
  have hop := Lib.hid (openR_any s w0)
  -- the reader
  have hR1 := heap_newI w0 (.cells (rdC s 0 0) 89)
  have hb1 := hb0.alloc (by first | exact hb0.size | (rw [← hB2e]; exact hb0.size)) (.cells (rdC s 0 0) 89)
  have hB21 := bel_heapR ((Below.refl w0.heap.size w0).alloc (Nat.le_refl _) (.cells (rdC s 0 0) 89)) hB2
  have hRge : B2 < w0.heap.size := lt_of_heap hB2
  generalize hRe : w0.heap.size = Rb at hR1 hop hRge
  generalize hW1 : w0.alloc (.cells (rdC s 0 0) 89) = w1 at hR1 hop hb1 hB21
  -- the variable that names it
  have hC2 := heap_newI w1 (.cells (capC Rb) 57)
  have hb2 := hb1.alloc (by first | exact hb1.size | (rw [← hB2e]; exact hb1.size)) (.cells (capC Rb) 57)
  have hx2 := (Below.refl w1.heap.size w1).alloc (Nat.le_refl _) (.cells (capC Rb) 57)
  have hR2 := bel_heapR hx2 hR1
  have hB22 := bel_heapR hx2 hB21
  have hCge : Rb < w1.heap.size := lt_of_heap hR1
  generalize hCe : w1.heap.size = RC at hC2 hCge
  generalize hW2 : w1.alloc (.cells (capC Rb) 57) = w2 at hC2 hb2 hR2 hB22
  -- the closure of letters, and its variable
  have hL3 := heap_newI w2 (.cells #[.func (.func 22) #[] #[.pointer (some ⟨RC, 0, none⟩)]] 63)
  have hb3 := hb2.alloc (by first | exact hb2.size | (rw [← hB2e]; exact hb2.size)) (.cells #[.func (.func 22) #[] #[.pointer (some ⟨RC, 0, none⟩)]] 63)
  have hx3 := (Below.refl w2.heap.size w2).alloc (Nat.le_refl _) (.cells #[.func (.func 22) #[] #[.pointer (some ⟨RC, 0, none⟩)]] 63)
  have hR3 := bel_heapR hx3 hR2
  have hC3 := bel_heapR hx3 hC2
  have hB23 := bel_heapR hx3 hB22
  have hLge : RC < w2.heap.size := lt_of_heap hC2
  generalize hLe : w2.heap.size = LC at hL3 hLge
  generalize hW3 : w2.alloc (.cells #[.func (.func 22) #[] #[.pointer (some ⟨RC, 0, none⟩)]] 63) = wa at hL3 hb3 hR3 hC3 hB23
  have hrd0 : RdrAt wa Rb s (some s.data.toList) := ⟨0, 0, hR3, rfl, Nat.zero_le _, rfl⟩
  have hneC : RC ≠ Rb := by omega
  have hneL : LC ≠ Rb := by omega
  have hneB : B2 ≠ Rb := by omega
  have hla : LC < wa.heap.size := lt_of_heap hL3
  have hcap := Lib.hid (fun (w' : World) (h : Kp Rb wa w') => (⟨h.heap hC3 hneC, h.heap hL3 hneL, h.heap hB23 hneB, box_cell (h.heap hC3 hneC) 0⟩ : w'.heap[RC]? = some (.cells (capC Rb) 57 (0, 0)) ∧ w'.heap[LC]? = some (.cells #[.func (.func 22) #[] #[.pointer (some ⟨RC, 0, none⟩)]] 63 (0, 0)) ∧ w'.heap[B2]? = some (.cells #[.slice none 0 0, .int .u64 0, .slice none 0 0, .slice none 0 0, .int .u64 0, .int .u64 0] 27 (0, 0)) ∧ w'.cell? ⟨RC, 0, none⟩ = some (.pointer (some ⟨Rb, 0, none⟩))))
  have hbase := Lib.hid hb3
  have hnum := numR_any s hs Rb (some s.data.toList) wa hrd0
  rw [show rNum 18446744073709551615 (some s.data.toList) = (vn, p0) from hq.out] at hnum
  dsimp only at hnum
  replace hnum := Lib.hid hnum
  have c0 := (hcap.out wa (Kp.refl Rb wa)).2.2.2
  clear hb0 hb1 hb2 hb3 hx2 hx3 hR1 hR2 hR3 hC2 hC3 hL3 hB2 hB21 hB22 hB23 hrd0
  go_enter Tryz.func8, Tryz.ntmps8
  go_upto_region 1 with fail
  go_wp2_with fail
  refine hop.out.mono ?_
  rintro e w1x ⟨rfl, rfl⟩
  dsimp only
  clear hop
  go_upto_region 4 with fail
  unfold capC at hW2
  have hLC1 : RC + 1 = LC := by rw [← hLe, ← hW2, ← hCe]; simp
  try rw [hW2]
  try rw [hW3]
  simp only [hLC1]
  clear hW0 hW1 hW2 hW3 hLC1
  go_wp2_with fail
  refine hnum.out.mono ?_
  rintro e wb ⟨rfl, hkb, hrb⟩
  dsimp only
  clear hnum c0
  go_upto_region 5 with fail
  go_cut [8] (fun v8 wx => ∃ T8 : Nat, v8 = .pointer (some ⟨T8, 0, none⟩) ∧ Hid (wa.heap.size ≤ T8 ∧ wx.heap[T8]? = some (.cells #[.slice none 0 0, .int .u64 n0, .slice none 0 0, .slice none 0 0, .int .u64 n1, .int .u64 n2] 27 (0, 0))) ∧ Hid (Kp Rb wa wx) ∧ Hid (RdrAt wx Rb s p3))
  case first =>
    have hkd := hkb.out.on ((Below.refl wb.heap.size wb).drew)
    have hrd := hrb.out.on ((Below.refl wb.heap.size wb).drew)
    refine wp_region_hd (fun w' => w'.cell? ⟨RC, 0, none⟩ = some (.pointer (some ⟨Rb, 0, none⟩))) 8 1 (by kernel_rfl) rfl ⟨by kernel_rfl, by kernel_rfl, by kernel_rfl, by decide⟩ (hcap.out _ hkd).2.2.2 (fun hok hS0 => ?_)
    generalize wb.drew = wd at *
    refine Hd.take (i := 0) (v := ?tv1) hok rfl (by kernel_rfl) (fun _ _ _ h => h) (Or.inl ⟨by rfl, ?ty1⟩) (by assumption) ?tr1
    case ty1 => (intro w hSw; (try dsimp only at hSw); go_simp; (try with_reducible rfl))
    try simp only [List.getElem_toArray, List.getElem_cons_succ, List.getElem_cons_zero, Act.put, List.setIfInBounds_toArray, List.set_cons_zero, List.set_cons_succ]
    refine Hd.take (i := 2) (v := ?tv2) hok rfl (by kernel_rfl) (fun _ _ _ h => h) (Or.inl ⟨by rfl, ?ty2⟩) (by assumption) ?tr2
    case ty2 => (intro w hSw; (try dsimp only at hSw); go_simp; (try with_reducible rfl))
    try simp only [List.getElem_toArray, List.getElem_cons_succ, List.getElem_cons_zero, Act.put, List.setIfInBounds_toArray, List.set_cons_zero, List.set_cons_succ]
    refine Hd.take (i := 4) (v := ?tv3) hok rfl (by kernel_rfl) (fun _ _ _ h => h) (Or.inl ⟨by rfl, ?ty3⟩) (by assumption) ?tr3
    case ty3 => (intro w hSw; (try dsimp only at hSw); go_simp; (try with_reducible rfl))
    try simp only [List.getElem_toArray, List.getElem_cons_succ, List.getElem_cons_zero, Act.put, List.setIfInBounds_toArray, List.set_cons_zero, List.set_cons_succ]
    refine Hd.two (i := 1) (k := 7) rfl rfl (by kernel_rfl) (fun K hK => ?_) (fun K hK => ?_)
    · go_simp
      have hcl := numR_any s hs Rb p0 wd hrd
      rw [show rNum 18446744073709551615 p0 = (n0, p1) from he0.out] at hcl
      dsimp only at hcl
      refine hcl.mono ?_
      rintro e x1 ⟨rfl, hkx, hrx⟩
      dsimp only
      replace hkd := hkd.trans hkx.out
      replace hrd := hrx.out
      have hSn := (hcap.out _ hkd).2.2.2
      refine hK _ _ hSn ?_
      clear hK K hcl hkx hrx
      try simp only [List.getElem_toArray, List.getElem_cons_succ, List.getElem_cons_zero, Act.put, List.setIfInBounds_toArray, List.set_cons_zero, List.set_cons_succ]
      refine Hd.two (i := 3) (k := 7) rfl rfl (by kernel_rfl) (fun K hK => ?_) (fun K hK => ?_)
      · go_simp
        have hcl := numR_any s hs Rb p1 x1 hrd
        rw [show rNum 18446744073709551615 p1 = (n1, p2) from he1.out] at hcl
        dsimp only at hcl
        refine hcl.mono ?_
        rintro e x2 ⟨rfl, hkx, hrx⟩
        dsimp only
        replace hkd := hkd.trans hkx.out
        replace hrd := hrx.out
        have hSn := (hcap.out _ hkd).2.2.2
        refine hK _ _ hSn ?_
        clear hK K hcl hkx hrx
        try simp only [List.getElem_toArray, List.getElem_cons_succ, List.getElem_cons_zero, Act.put, List.setIfInBounds_toArray, List.set_cons_zero, List.set_cons_succ]
        refine Hd.two (i := 5) (k := 7) rfl rfl (by kernel_rfl) (fun K hK => ?_) (fun K hK => ?_)
        · go_simp
          have hcl := numR_any s hs Rb p2 x2 hrd
          rw [show rNum 18446744073709551615 p2 = (n2, p3) from he2.out] at hcl
          dsimp only at hcl
          refine hcl.mono ?_
          rintro e x3 ⟨rfl, hkx, hrx⟩
          dsimp only
          replace hkd := hkd.trans hkx.out
          replace hrd := hrx.out
          have hSn := (hcap.out _ hkd).2.2.2
          refine hK _ _ hSn ?_
          clear hK K hcl hkx hrx
          try simp only [List.getElem_toArray, List.getElem_cons_succ, List.getElem_cons_zero, Act.put, List.setIfInBounds_toArray, List.set_cons_zero, List.set_cons_succ]
          refine Hd.take (i := 6) (v := ?tv4) hok rfl (by kernel_rfl) (fun _ _ _ h => h) (Or.inl ⟨by rfl, ?ty4⟩) (by assumption) ?tr4
          case ty4 => (intro w hSw; (try dsimp only at hSw); go_simp; (try with_reducible rfl))
          try simp only [List.getElem_toArray, List.getElem_cons_succ, List.getElem_cons_zero, Act.put, List.setIfInBounds_toArray, List.set_cons_zero, List.set_cons_succ]
          refine Hd.one (i := 7) rfl (by kernel_rfl) (fun K hK => ?_)
          go_simp
          have hb9 := (Below.refl x3.heap.size x3).alloc (Nat.le_refl _) (.cells #[.slice none 0 0, .int .u64 0, .slice none 0 0, .slice none 0 0, .int .u64 0, .int .u64 0] 27)
          have hT := heap_newI x3 (.cells #[.slice none 0 0, .int .u64 0, .slice none 0 0, .slice none 0 0, .int .u64 0, .int .u64 0] 27)
          have hTs : wa.heap.size ≤ x3.heap.size := hkd.size
          have hTR : Rb < x3.heap.size := hrd.lt
          generalize hTe : x3.heap.size = T8 at hT hTs hTR hb9
          replace hkd := hkd.on (by rw [hTe]; exact hb9)
          replace hrd := hrd.on (by rw [hTe]; exact hb9)
          generalize x3.alloc (.cells #[.slice none 0 0, .int .u64 0, .slice none 0 0, .slice none 0 0, .int .u64 0, .int .u64 0] 27) = x3b at hT hkd hrd ⊢
          clear hb9 hTe
          have hSn := (hcap.out _ hkd).2.2.2
          refine hK _ _ hSn ?_
          clear hK K
          try simp only [List.getElem_toArray, List.getElem_cons_succ, List.getElem_cons_zero, Act.put, List.setIfInBounds_toArray, List.set_cons_zero, List.set_cons_succ]
          refine Hd.done (by kernel_rfl) ?_
          simp only [List.drop_succ_cons, List.drop_zero]
          have z0 := box_cell hT 0
          have z1 := box_cell hT 1
          have z2 := box_cell hT 2
          have z3 := box_cell hT 3
          have z4 := box_cell hT 4
          have z5 := box_cell hT 5
          simp at z0 z1 z2 z3 z4 z5
          have f0 := box_free hT 0
          have f1 := box_free hT 1
          have f2 := box_free hT 2
          have f3 := box_free hT 3
          have f4 := box_free hT 4
          have f5 := box_free hT 5
          have hTn : ((((((x3b.setCell ⟨T8, 0, none⟩ (.slice none 0 0)).setCell ⟨T8, 1, none⟩ (.int .u64 n0)).setCell ⟨T8, 2, none⟩ (.slice none 0 0)).setCell ⟨T8, 3, none⟩ (.slice none 0 0)).setCell ⟨T8, 4, none⟩ (.int .u64 n1)).setCell ⟨T8, 5, none⟩ (.int .u64 n2)).heap[T8]? = some (.cells #[.slice none 0 0, .int .u64 n0, .slice none 0 0, .slice none 0 0, .int .u64 n1, .int .u64 n2] 27 (0, 0)) := cells_set (C := [.slice none 0 0, .int .u64 n0, .slice none 0 0, .slice none 0 0, .int .u64 n1, _]) (cells_set (C := [.slice none 0 0, .int .u64 n0, .slice none 0 0, .slice none 0 0, _, _]) (cells_set (C := [.slice none 0 0, .int .u64 n0, .slice none 0 0, _, _, _]) (cells_set (C := [.slice none 0 0, .int .u64 n0, _, _, _, _]) (cells_set (C := [.slice none 0 0, _, _, _, _, _]) (cells_set (C := [_, _, _, _, _, _]) hT 0 _) 1 _) 2 _) 3 _) 4 _) 5 _
          have hkn := Lib.hid ((((((hkd.setNew hTs 0 (.slice none 0 0)).setNew hTs 1 (.int .u64 n0)).setNew hTs 2 (.slice none 0 0)).setNew hTs 3 (.slice none 0 0)).setNew hTs 4 (.int .u64 n1)).setNew hTs 5 (.int .u64 n2))
          have hrn := Lib.hid ((((((hrd.setOther (Nat.ne_of_lt hTR) 0 (.slice none 0 0)).setOther (Nat.ne_of_lt hTR) 1 (.int .u64 n0)).setOther (Nat.ne_of_lt hTR) 2 (.slice none 0 0)).setOther (Nat.ne_of_lt hTR) 3 (.slice none 0 0)).setOther (Nat.ne_of_lt hTR) 4 (.int .u64 n1)).setOther (Nat.ne_of_lt hTR) 5 (.int .u64 n2))
          replace hTn := Lib.hid (And.intro hTs hTn)
          clear hok hS0 hSn hkd hrd hT
          go_wp2_with fail
          go_meet
          case rel => exact ⟨T8, rfl, hTn, hkn, hrn⟩
        · go_simp
          have hb9 := (Below.refl x2.heap.size x2).alloc (Nat.le_refl _) (.cells #[.slice none 0 0, .int .u64 0, .slice none 0 0, .slice none 0 0, .int .u64 0, .int .u64 0] 27)
          have hT := heap_newI x2 (.cells #[.slice none 0 0, .int .u64 0, .slice none 0 0, .slice none 0 0, .int .u64 0, .int .u64 0] 27)
          have hTs : wa.heap.size ≤ x2.heap.size := hkd.size
          have hTR : Rb < x2.heap.size := hrd.lt
          generalize hTe : x2.heap.size = T8 at hT hTs hTR hb9
          replace hkd := hkd.on (by rw [hTe]; exact hb9)
          replace hrd := hrd.on (by rw [hTe]; exact hb9)
          generalize x2.alloc (.cells #[.slice none 0 0, .int .u64 0, .slice none 0 0, .slice none 0 0, .int .u64 0, .int .u64 0] 27) = x2b at hT hkd hrd ⊢
          clear hb9 hTe
          have hSn := (hcap.out _ hkd).2.2.2
          refine hK _ _ hSn ?_
          clear hK K
          try simp only [List.getElem_toArray, List.getElem_cons_succ, List.getElem_cons_zero, Act.put, List.setIfInBounds_toArray, List.set_cons_zero, List.set_cons_succ]
          refine Hd.one (i := 5) rfl (by kernel_rfl) (fun K hK => ?_)
          go_simp
          have hcl := numR_any s hs Rb p2 x2b hrd
          rw [show rNum 18446744073709551615 p2 = (n2, p3) from he2.out] at hcl
          dsimp only at hcl
          refine hcl.mono ?_
          rintro e x3a ⟨rfl, hkx, hrx⟩
          dsimp only
          replace hT := hkx.out.heap hT (by omega)
          replace hkd := hkd.trans hkx.out
          replace hrd := hrx.out
          have hSn := (hcap.out _ hkd).2.2.2
          refine hK _ _ hSn ?_
          clear hK K hcl hkx hrx
          try simp only [List.getElem_toArray, List.getElem_cons_succ, List.getElem_cons_zero, Act.put, List.setIfInBounds_toArray, List.set_cons_zero, List.set_cons_succ]
          refine Hd.take (i := 6) (v := ?tv5) hok rfl (by kernel_rfl) (fun _ _ _ h => h) (Or.inl ⟨by rfl, ?ty5⟩) (by assumption) ?tr5
          case ty5 => (intro w hSw; (try dsimp only at hSw); go_simp; (try with_reducible rfl))
          try simp only [List.getElem_toArray, List.getElem_cons_succ, List.getElem_cons_zero, Act.put, List.setIfInBounds_toArray, List.set_cons_zero, List.set_cons_succ]
          refine Hd.done (by kernel_rfl) ?_
          simp only [List.drop_succ_cons, List.drop_zero]
          have z0 := box_cell hT 0
          have z1 := box_cell hT 1
          have z2 := box_cell hT 2
          have z3 := box_cell hT 3
          have z4 := box_cell hT 4
          have z5 := box_cell hT 5
          simp at z0 z1 z2 z3 z4 z5
          have f0 := box_free hT 0
          have f1 := box_free hT 1
          have f2 := box_free hT 2
          have f3 := box_free hT 3
          have f4 := box_free hT 4
          have f5 := box_free hT 5
          have hTn : ((((((x3a.setCell ⟨T8, 0, none⟩ (.slice none 0 0)).setCell ⟨T8, 1, none⟩ (.int .u64 n0)).setCell ⟨T8, 2, none⟩ (.slice none 0 0)).setCell ⟨T8, 3, none⟩ (.slice none 0 0)).setCell ⟨T8, 4, none⟩ (.int .u64 n1)).setCell ⟨T8, 5, none⟩ (.int .u64 n2)).heap[T8]? = some (.cells #[.slice none 0 0, .int .u64 n0, .slice none 0 0, .slice none 0 0, .int .u64 n1, .int .u64 n2] 27 (0, 0)) := cells_set (C := [.slice none 0 0, .int .u64 n0, .slice none 0 0, .slice none 0 0, .int .u64 n1, _]) (cells_set (C := [.slice none 0 0, .int .u64 n0, .slice none 0 0, .slice none 0 0, _, _]) (cells_set (C := [.slice none 0 0, .int .u64 n0, .slice none 0 0, _, _, _]) (cells_set (C := [.slice none 0 0, .int .u64 n0, _, _, _, _]) (cells_set (C := [.slice none 0 0, _, _, _, _, _]) (cells_set (C := [_, _, _, _, _, _]) hT 0 _) 1 _) 2 _) 3 _) 4 _) 5 _
          have hkn := Lib.hid ((((((hkd.setNew hTs 0 (.slice none 0 0)).setNew hTs 1 (.int .u64 n0)).setNew hTs 2 (.slice none 0 0)).setNew hTs 3 (.slice none 0 0)).setNew hTs 4 (.int .u64 n1)).setNew hTs 5 (.int .u64 n2))
          have hrn := Lib.hid ((((((hrd.setOther (Nat.ne_of_lt hTR) 0 (.slice none 0 0)).setOther (Nat.ne_of_lt hTR) 1 (.int .u64 n0)).setOther (Nat.ne_of_lt hTR) 2 (.slice none 0 0)).setOther (Nat.ne_of_lt hTR) 3 (.slice none 0 0)).setOther (Nat.ne_of_lt hTR) 4 (.int .u64 n1)).setOther (Nat.ne_of_lt hTR) 5 (.int .u64 n2))
          replace hTn := Lib.hid (And.intro hTs hTn)
          clear hok hS0 hSn hkd hrd hT
          go_wp2_with fail
          go_meet
          case rel => exact ⟨T8, rfl, hTn, hkn, hrn⟩
      · go_simp
        have hb9 := (Below.refl x1.heap.size x1).alloc (Nat.le_refl _) (.cells #[.slice none 0 0, .int .u64 0, .slice none 0 0, .slice none 0 0, .int .u64 0, .int .u64 0] 27)
        have hT := heap_newI x1 (.cells #[.slice none 0 0, .int .u64 0, .slice none 0 0, .slice none 0 0, .int .u64 0, .int .u64 0] 27)
        have hTs : wa.heap.size ≤ x1.heap.size := hkd.size
        have hTR : Rb < x1.heap.size := hrd.lt
        generalize hTe : x1.heap.size = T8 at hT hTs hTR hb9
        replace hkd := hkd.on (by rw [hTe]; exact hb9)
        replace hrd := hrd.on (by rw [hTe]; exact hb9)
        generalize x1.alloc (.cells #[.slice none 0 0, .int .u64 0, .slice none 0 0, .slice none 0 0, .int .u64 0, .int .u64 0] 27) = x1b at hT hkd hrd ⊢
        clear hb9 hTe
        have hSn := (hcap.out _ hkd).2.2.2
        refine hK _ _ hSn ?_
        clear hK K
        try simp only [List.getElem_toArray, List.getElem_cons_succ, List.getElem_cons_zero, Act.put, List.setIfInBounds_toArray, List.set_cons_zero, List.set_cons_succ]
        refine Hd.one (i := 3) rfl (by kernel_rfl) (fun K hK => ?_)
        go_simp
        have hcl := numR_any s hs Rb p1 x1b hrd
        rw [show rNum 18446744073709551615 p1 = (n1, p2) from he1.out] at hcl
        dsimp only at hcl
        refine hcl.mono ?_
        rintro e x2a ⟨rfl, hkx, hrx⟩
        dsimp only
        replace hT := hkx.out.heap hT (by omega)
        replace hkd := hkd.trans hkx.out
        replace hrd := hrx.out
        have hSn := (hcap.out _ hkd).2.2.2
        refine hK _ _ hSn ?_
        clear hK K hcl hkx hrx
        try simp only [List.getElem_toArray, List.getElem_cons_succ, List.getElem_cons_zero, Act.put, List.setIfInBounds_toArray, List.set_cons_zero, List.set_cons_succ]
        refine Hd.one (i := 5) rfl (by kernel_rfl) (fun K hK => ?_)
        go_simp
        have hcl := numR_any s hs Rb p2 x2a hrd
        rw [show rNum 18446744073709551615 p2 = (n2, p3) from he2.out] at hcl
        dsimp only at hcl
        refine hcl.mono ?_
        rintro e x3a ⟨rfl, hkx, hrx⟩
        dsimp only
        replace hT := hkx.out.heap hT (by omega)
        replace hkd := hkd.trans hkx.out
        replace hrd := hrx.out
        have hSn := (hcap.out _ hkd).2.2.2
        refine hK _ _ hSn ?_
        clear hK K hcl hkx hrx
        try simp only [List.getElem_toArray, List.getElem_cons_succ, List.getElem_cons_zero, Act.put, List.setIfInBounds_toArray, List.set_cons_zero, List.set_cons_succ]
        refine Hd.take (i := 6) (v := ?tv6) hok rfl (by kernel_rfl) (fun _ _ _ h => h) (Or.inl ⟨by rfl, ?ty6⟩) (by assumption) ?tr6
        case ty6 => (intro w hSw; (try dsimp only at hSw); go_simp; (try with_reducible rfl))
        try simp only [List.getElem_toArray, List.getElem_cons_succ, List.getElem_cons_zero, Act.put, List.setIfInBounds_toArray, List.set_cons_zero, List.set_cons_succ]
        refine Hd.done (by kernel_rfl) ?_
        simp only [List.drop_succ_cons, List.drop_zero]
        have z0 := box_cell hT 0
        have z1 := box_cell hT 1
        have z2 := box_cell hT 2
        have z3 := box_cell hT 3
        have z4 := box_cell hT 4
        have z5 := box_cell hT 5
        simp at z0 z1 z2 z3 z4 z5
        have f0 := box_free hT 0
        have f1 := box_free hT 1
        have f2 := box_free hT 2
        have f3 := box_free hT 3
        have f4 := box_free hT 4
        have f5 := box_free hT 5
        have hTn : ((((((x3a.setCell ⟨T8, 0, none⟩ (.slice none 0 0)).setCell ⟨T8, 1, none⟩ (.int .u64 n0)).setCell ⟨T8, 2, none⟩ (.slice none 0 0)).setCell ⟨T8, 3, none⟩ (.slice none 0 0)).setCell ⟨T8, 4, none⟩ (.int .u64 n1)).setCell ⟨T8, 5, none⟩ (.int .u64 n2)).heap[T8]? = some (.cells #[.slice none 0 0, .int .u64 n0, .slice none 0 0, .slice none 0 0, .int .u64 n1, .int .u64 n2] 27 (0, 0)) := cells_set (C := [.slice none 0 0, .int .u64 n0, .slice none 0 0, .slice none 0 0, .int .u64 n1, _]) (cells_set (C := [.slice none 0 0, .int .u64 n0, .slice none 0 0, .slice none 0 0, _, _]) (cells_set (C := [.slice none 0 0, .int .u64 n0, .slice none 0 0, _, _, _]) (cells_set (C := [.slice none 0 0, .int .u64 n0, _, _, _, _]) (cells_set (C := [.slice none 0 0, _, _, _, _, _]) (cells_set (C := [_, _, _, _, _, _]) hT 0 _) 1 _) 2 _) 3 _) 4 _) 5 _
        have hkn := Lib.hid ((((((hkd.setNew hTs 0 (.slice none 0 0)).setNew hTs 1 (.int .u64 n0)).setNew hTs 2 (.slice none 0 0)).setNew hTs 3 (.slice none 0 0)).setNew hTs 4 (.int .u64 n1)).setNew hTs 5 (.int .u64 n2))
        have hrn := Lib.hid ((((((hrd.setOther (Nat.ne_of_lt hTR) 0 (.slice none 0 0)).setOther (Nat.ne_of_lt hTR) 1 (.int .u64 n0)).setOther (Nat.ne_of_lt hTR) 2 (.slice none 0 0)).setOther (Nat.ne_of_lt hTR) 3 (.slice none 0 0)).setOther (Nat.ne_of_lt hTR) 4 (.int .u64 n1)).setOther (Nat.ne_of_lt hTR) 5 (.int .u64 n2))
        replace hTn := Lib.hid (And.intro hTs hTn)
        clear hok hS0 hSn hkd hrd hT
        go_wp2_with fail
        go_meet
        case rel => exact ⟨T8, rfl, hTn, hkn, hrn⟩
    · go_simp
      have hb9 := (Below.refl wd.heap.size wd).alloc (Nat.le_refl _) (.cells #[.slice none 0 0, .int .u64 0, .slice none 0 0, .slice none 0 0, .int .u64 0, .int .u64 0] 27)
      have hT := heap_newI wd (.cells #[.slice none 0 0, .int .u64 0, .slice none 0 0, .slice none 0 0, .int .u64 0, .int .u64 0] 27)
      have hTs : wa.heap.size ≤ wd.heap.size := hkd.size
      have hTR : Rb < wd.heap.size := hrd.lt
      generalize hTe : wd.heap.size = T8 at hT hTs hTR hb9
      replace hkd := hkd.on (by rw [hTe]; exact hb9)
      replace hrd := hrd.on (by rw [hTe]; exact hb9)
      generalize wd.alloc (.cells #[.slice none 0 0, .int .u64 0, .slice none 0 0, .slice none 0 0, .int .u64 0, .int .u64 0] 27) = wdb at hT hkd hrd ⊢
      clear hb9 hTe
      have hSn := (hcap.out _ hkd).2.2.2
      refine hK _ _ hSn ?_
      clear hK K
      try simp only [List.getElem_toArray, List.getElem_cons_succ, List.getElem_cons_zero, Act.put, List.setIfInBounds_toArray, List.set_cons_zero, List.set_cons_succ]
      refine Hd.one (i := 1) rfl (by kernel_rfl) (fun K hK => ?_)
      go_simp
      have hcl := numR_any s hs Rb p0 wdb hrd
      rw [show rNum 18446744073709551615 p0 = (n0, p1) from he0.out] at hcl
      dsimp only at hcl
      refine hcl.mono ?_
      rintro e x1a ⟨rfl, hkx, hrx⟩
      dsimp only
      replace hT := hkx.out.heap hT (by omega)
      replace hkd := hkd.trans hkx.out
      replace hrd := hrx.out
      have hSn := (hcap.out _ hkd).2.2.2
      refine hK _ _ hSn ?_
      clear hK K hcl hkx hrx
      try simp only [List.getElem_toArray, List.getElem_cons_succ, List.getElem_cons_zero, Act.put, List.setIfInBounds_toArray, List.set_cons_zero, List.set_cons_succ]
      refine Hd.one (i := 3) rfl (by kernel_rfl) (fun K hK => ?_)
      go_simp
      have hcl := numR_any s hs Rb p1 x1a hrd
      rw [show rNum 18446744073709551615 p1 = (n1, p2) from he1.out] at hcl
      dsimp only at hcl
      refine hcl.mono ?_
      rintro e x2a ⟨rfl, hkx, hrx⟩
      dsimp only
      replace hT := hkx.out.heap hT (by omega)
      replace hkd := hkd.trans hkx.out
      replace hrd := hrx.out
      have hSn := (hcap.out _ hkd).2.2.2
      refine hK _ _ hSn ?_
      clear hK K hcl hkx hrx
      try simp only [List.getElem_toArray, List.getElem_cons_succ, List.getElem_cons_zero, Act.put, List.setIfInBounds_toArray, List.set_cons_zero, List.set_cons_succ]
      refine Hd.one (i := 5) rfl (by kernel_rfl) (fun K hK => ?_)
      go_simp
      have hcl := numR_any s hs Rb p2 x2a hrd
      rw [show rNum 18446744073709551615 p2 = (n2, p3) from he2.out] at hcl
      dsimp only at hcl
      refine hcl.mono ?_
      rintro e x3a ⟨rfl, hkx, hrx⟩
      dsimp only
      replace hT := hkx.out.heap hT (by omega)
      replace hkd := hkd.trans hkx.out
      replace hrd := hrx.out
      have hSn := (hcap.out _ hkd).2.2.2
      refine hK _ _ hSn ?_
      clear hK K hcl hkx hrx
      try simp only [List.getElem_toArray, List.getElem_cons_succ, List.getElem_cons_zero, Act.put, List.setIfInBounds_toArray, List.set_cons_zero, List.set_cons_succ]
      refine Hd.take (i := 6) (v := ?tv7) hok rfl (by kernel_rfl) (fun _ _ _ h => h) (Or.inl ⟨by rfl, ?ty7⟩) (by assumption) ?tr7
      case ty7 => (intro w hSw; (try dsimp only at hSw); go_simp; (try with_reducible rfl))
      try simp only [List.getElem_toArray, List.getElem_cons_succ, List.getElem_cons_zero, Act.put, List.setIfInBounds_toArray, List.set_cons_zero, List.set_cons_succ]
      refine Hd.done (by kernel_rfl) ?_
      simp only [List.drop_succ_cons, List.drop_zero]
      have z0 := box_cell hT 0
      have z1 := box_cell hT 1
      have z2 := box_cell hT 2
      have z3 := box_cell hT 3
      have z4 := box_cell hT 4
      have z5 := box_cell hT 5
      simp at z0 z1 z2 z3 z4 z5
      have f0 := box_free hT 0
      have f1 := box_free hT 1
      have f2 := box_free hT 2
      have f3 := box_free hT 3
      have f4 := box_free hT 4
      have f5 := box_free hT 5
      have hTn : ((((((x3a.setCell ⟨T8, 0, none⟩ (.slice none 0 0)).setCell ⟨T8, 1, none⟩ (.int .u64 n0)).setCell ⟨T8, 2, none⟩ (.slice none 0 0)).setCell ⟨T8, 3, none⟩ (.slice none 0 0)).setCell ⟨T8, 4, none⟩ (.int .u64 n1)).setCell ⟨T8, 5, none⟩ (.int .u64 n2)).heap[T8]? = some (.cells #[.slice none 0 0, .int .u64 n0, .slice none 0 0, .slice none 0 0, .int .u64 n1, .int .u64 n2] 27 (0, 0)) := cells_set (C := [.slice none 0 0, .int .u64 n0, .slice none 0 0, .slice none 0 0, .int .u64 n1, _]) (cells_set (C := [.slice none 0 0, .int .u64 n0, .slice none 0 0, .slice none 0 0, _, _]) (cells_set (C := [.slice none 0 0, .int .u64 n0, .slice none 0 0, _, _, _]) (cells_set (C := [.slice none 0 0, .int .u64 n0, _, _, _, _]) (cells_set (C := [.slice none 0 0, _, _, _, _, _]) (cells_set (C := [_, _, _, _, _, _]) hT 0 _) 1 _) 2 _) 3 _) 4 _) 5 _
      have hkn := Lib.hid ((((((hkd.setNew hTs 0 (.slice none 0 0)).setNew hTs 1 (.int .u64 n0)).setNew hTs 2 (.slice none 0 0)).setNew hTs 3 (.slice none 0 0)).setNew hTs 4 (.int .u64 n1)).setNew hTs 5 (.int .u64 n2))
      have hrn := Lib.hid ((((((hrd.setOther (Nat.ne_of_lt hTR) 0 (.slice none 0 0)).setOther (Nat.ne_of_lt hTR) 1 (.int .u64 n0)).setOther (Nat.ne_of_lt hTR) 2 (.slice none 0 0)).setOther (Nat.ne_of_lt hTR) 3 (.slice none 0 0)).setOther (Nat.ne_of_lt hTR) 4 (.int .u64 n1)).setOther (Nat.ne_of_lt hTR) 5 (.int .u64 n2))
      replace hTn := Lib.hid (And.intro hTs hTn)
      clear hok hS0 hSn hkd hrd hT
      go_wp2_with fail
      go_meet
      case rel => exact ⟨T8, rfl, hTn, hkn, hrn⟩
  case rest =>
  obtain ⟨T8, rfl, hT, hkx, hrx⟩ := hcut
  generalize wc = wx at *
  clear hkb hrb
  have hT8R : T8 ≠ Rb := by have := hT.out.1; omega
  have hT8B : B2 ≠ T8 := by have := hT.out.1; omega
  have hTge := Lib.hid hT.out.1
  replace hT := Lib.hid hT.out.2
  obtain ⟨hRCx, hLCx, -, c0⟩ := hcap.out wx hkx.out
  have hcall := read_boxes_any Rb RC LC s hs boxR 8 (by decide) p3 wx hrx.out (fun w2 p hk2 hr2 => clBox_any RC LC Rb s hs w2 p (hk2.heap hRCx hneC) hneC (hk2.heap hLCx hneL) hneL hr2)
  rw [he3.out] at hcall
  replace hcall := Lib.hid hcall
  have hTlb := lt_of_heap hT.out
  have hRlb := hrx.out.lt
  go_wp2_with fail
  refine hcall.out.mono ?_
  rintro e w5 ⟨v5, bs, rfl, hmpb, hk5, hr5, hstb⟩
  dsimp only at hmpb hr5
  obtain ⟨ab, qb, hv5, -⟩ := hstb.out.now.1
  subst hv5
  have hT5 := hk5.out.heap hT.out hT8R
  have t0f := box_cell hT5 0
  simp at t0f
  have f0 := box_free hT5 0
  have hT6 : (w5.setCell ⟨T8, 0, none⟩ (.slice ab bs.length qb)).heap[T8]? = some (.cells #[.slice ab bs.length qb, .int .u64 n0, .slice none 0 0, .slice none 0 0, .int .u64 n1, .int .u64 n2] 27 (0, 0)) := cells_set (C := [.slice none 0 0, .int .u64 n0, .slice none 0 0, .slice none 0 0, .int .u64 n1, .int .u64 n2]) hT5 0 _
  have hk6 := ((hkx.out.trans hk5.out).setNew hTge.out 0 (.slice ab bs.length qb))
  have hr6 := hr5.out.setOther (Ne.symm hT8R) 0 (.slice ab bs.length qb)
  replace hstb := hstb.out.setLow hTlb 0 (.slice ab bs.length qb)
  clear hcall hT5 c0 hRCx hLCx hkx hrx hT hk5 hr5
  go_upto_region 7 with fail
  clear t0f f0
  generalize w5.setCell ⟨T8, 0, none⟩ (.slice ab bs.length qb) = wx at *
  have hT := Lib.hid hT6
  have hkx := Lib.hid hk6
  have hrx := Lib.hid hr6
  clear hT6 hk6 hr6
  obtain ⟨hRCx, hLCx, -, c0⟩ := hcap.out wx hkx.out
  have hcall := read_homes_any Rb RC s hs homeR 5 (by decide) p4 wx hrx.out (fun w2 p hk2 hr2 => clHome_any RC Rb s hs w2 p (hk2.heap hRCx hneC) hneC hr2)
  rw [he4.out] at hcall
  replace hcall := Lib.hid hcall
  have hTlh := lt_of_heap hT.out
  have hRlh := hrx.out.lt
  go_wp2_with fail
  refine hcall.out.mono ?_
  rintro e w5 ⟨v5, hs_, rfl, hmph, hk5, hr5, hsth⟩
  dsimp only at hmph hr5
  obtain ⟨ah, qh, hv5, -⟩ := hsth.out.now.1
  subst hv5
  have hT5 := hk5.out.heap hT.out hT8R
  have t0f := box_cell hT5 2
  simp at t0f
  have f0 := box_free hT5 2
  have hT6 : (w5.setCell ⟨T8, 2, none⟩ (.slice ah hs_.length qh)).heap[T8]? = some (.cells #[.slice ab bs.length qb, .int .u64 n0, .slice ah hs_.length qh, .slice none 0 0, .int .u64 n1, .int .u64 n2] 27 (0, 0)) := cells_set (C := [.slice ab bs.length qb, .int .u64 n0, .slice none 0 0, .slice none 0 0, .int .u64 n1, .int .u64 n2]) hT5 2 _
  have hk6 := ((hkx.out.trans hk5.out).setNew hTge.out 2 (.slice ah hs_.length qh))
  have hr6 := hr5.out.setOther (Ne.symm hT8R) 2 (.slice ah hs_.length qh)
  replace hsth := hsth.out.setLow hTlh 2 (.slice ah hs_.length qh)
  replace hstb := (hstb.kp hk5.out (by omega)).setLow (B := T8) (by omega) 2 (.slice ah hs_.length qh)
  clear hcall hT5 c0 hRCx hLCx hkx hrx hT hk5 hr5
  go_upto_region 8 with fail
  clear t0f f0
  generalize w5.setCell ⟨T8, 2, none⟩ (.slice ah hs_.length qh) = wx at *
  have hT := Lib.hid hT6
  have hkx := Lib.hid hk6
  have hrx := Lib.hid hr6
  clear hT6 hk6 hr6
  obtain ⟨hRCx, hLCx, -, c0⟩ := hcap.out wx hkx.out
  have hcall := read_seats_any Rb RC s hs seatR 16 (by decide) p5 wx hrx.out (fun w2 p hk2 hr2 => clSeat_any RC Rb s hs w2 p (hk2.heap hRCx hneC) hneC hr2)
  rw [he5.out] at hcall
  replace hcall := Lib.hid hcall
  have hTlz := lt_of_heap hT.out
  have hRlz := hrx.out.lt
  go_wp2_with fail
  refine hcall.out.mono ?_
  rintro e w5 ⟨v5, ss, rfl, hmpz, hk5, hr5, hstz⟩
  dsimp only at hmpz hr5
  obtain ⟨az, qz, hv5, -⟩ := hstz.out.now.1
  subst hv5
  have hT5 := hk5.out.heap hT.out hT8R
  have t0f := box_cell hT5 3
  simp at t0f
  have f0 := box_free hT5 3
  have hT6 : (w5.setCell ⟨T8, 3, none⟩ (.slice az ss.length qz)).heap[T8]? = some (.cells #[.slice ab bs.length qb, .int .u64 n0, .slice ah hs_.length qh, .slice az ss.length qz, .int .u64 n1, .int .u64 n2] 27 (0, 0)) := cells_set (C := [.slice ab bs.length qb, .int .u64 n0, .slice ah hs_.length qh, .slice none 0 0, .int .u64 n1, .int .u64 n2]) hT5 3 _
  have hk6 := ((hkx.out.trans hk5.out).setNew hTge.out 3 (.slice az ss.length qz))
  have hr6 := hr5.out.setOther (Ne.symm hT8R) 3 (.slice az ss.length qz)
  replace hstz := hstz.out.setLow hTlz 3 (.slice az ss.length qz)
  replace hstb := (hstb.kp hk5.out (by omega)).setLow (B := T8) (by omega) 3 (.slice az ss.length qz)
  replace hsth := (hsth.kp hk5.out (by omega)).setLow (B := T8) (by omega) 3 (.slice az ss.length qz)
  clear hcall hT5 c0 hRCx hLCx hkx hrx hT hk5 hr5
  go_upto_region 9 with fail
  clear t0f f0
  generalize w5.setCell ⟨T8, 3, none⟩ (.slice az ss.length qz) = wx at *
  have hT := Lib.hid hT6
  have hkx := Lib.hid hk6
  have hrx := Lib.hid hr6
  clear hT6 hk6 hr6
  have hend := Lib.hid (endR_any s Rb p6 wx hrx.out)
  obtain ⟨-, -, -, c0⟩ := hcap.out wx hkx.out
  go_wp2_with fail
  refine hend.out.mono ?_
  rintro e w6 ⟨c, rfl, hc, hk6⟩
  dsimp only
  have hk6x := Lib.hid (hkx.out.trans hk6.out)
  have hT6 := Lib.hid (hk6.out.heap hT.out hT8R)
  replace hstb := Lib.hid (hstb.kp hk6.out (by omega))
  replace hsth := Lib.hid (hsth.kp hk6.out (by omega))
  replace hstz := Lib.hid (hstz.kp hk6.out (by omega))
  clear hend c0 hT hkx hrx hk6
  have hmh : hs_ = lh := by have h1 := hmph.out; have h2 : hs_.map (fun y => y) = hs_ := List.map_id _; rw [h2] at h1; exact h1
  have hms : ss = ls := by have h1 := hmpz.out; have h2 : ss.map (fun y => y) = ss := List.map_id _; rw [h2] at h1; exact h1
  subst hmh hms
  have hml : Hid (MlIn w6 (.agg #[.slice ab bs.length qb, .int .u64 n0, .slice ah hs_.length qh, .slice az ss.length qz, .int .u64 n1, .int .u64 n2]) ⟨lb, n0, hs_, ss, n1, n2⟩) := Lib.hid ⟨_, _, _, bs, rfl, hmpb.out, ⟨hstb.out.now.1, hstb.out.now.2⟩, hsth.out.now.1, hstz.out.now.1⟩
  have hbel := Lib.hid (fun w' (h : Kp Rb wa w') => h.bel hbase.out (by omega) hbase.out.size)
  have hB6 := Lib.hid ((hcap.out w6 hk6x.out).2.2.1)
  have hB2T : B2 ≠ T8 := hT8B
  have hB2le : W.heap.size ≤ B2 := Nat.le_of_eq hB2e
  clear hcap hmph hmpz
  by_cases hc0 : c = 0
  case neg =>
    have q0 : ((c : Int) != 0) = true := by simp; omega
    have hno : Hid (¬ IsImage s) := Lib.hid (fun h => hc0 (hc.out.2 ((hI.out.1 h).1)))
    clear hc0 hc hml hT6 hsz hI hstb hsth hstz hmpb
    have y0 := box_cell hB6.out 0
    have y1 := box_cell hB6.out 1
    have y2 := box_cell hB6.out 2
    have y3 := box_cell hB6.out 3
    have y4 := box_cell hB6.out 4
    have y5 := box_cell hB6.out 5
    simp at y0 y1 y2 y3 y4 y5
    have g0 := box_free hB6.out 0
    have g1 := box_free hB6.out 1
    have g2 := box_free hB6.out 2
    have g3 := box_free hB6.out 3
    have g4 := box_free hB6.out 4
    have g5 := box_free hB6.out 5
    have hB7 : ((((((w6.setCell ⟨B2, 0, none⟩ (.slice none 0 0)).setCell ⟨B2, 1, none⟩ (.int .u64 0)).setCell ⟨B2, 2, none⟩ (.slice none 0 0)).setCell ⟨B2, 3, none⟩ (.slice none 0 0)).setCell ⟨B2, 4, none⟩ (.int .u64 0)).setCell ⟨B2, 5, none⟩ (.int .u64 0)).heap[B2]? = some (.cells #[.slice none 0 0, .int .u64 0, .slice none 0 0, .slice none 0 0, .int .u64 0, .int .u64 0] 27 (0, 0)) := cells_set (C := [.slice none 0 0, .int .u64 0, .slice none 0 0, .slice none 0 0, .int .u64 0, _]) (cells_set (C := [.slice none 0 0, .int .u64 0, .slice none 0 0, .slice none 0 0, _, _]) (cells_set (C := [.slice none 0 0, .int .u64 0, .slice none 0 0, _, _, _]) (cells_set (C := [.slice none 0 0, .int .u64 0, _, _, _, _]) (cells_set (C := [.slice none 0 0, _, _, _, _, _]) (cells_set (C := [_, _, _, _, _, _]) hB6.out 0 _) 1 _) 2 _) 3 _) 4 _) 5 _
    have hb7 := Lib.hid (((((((hbel.out _ hk6x.out).setCell (p := ⟨B2, 0, none⟩) hB2le (.slice none 0 0)).setCell (p := ⟨B2, 1, none⟩) hB2le (.int .u64 0)).setCell (p := ⟨B2, 2, none⟩) hB2le (.slice none 0 0)).setCell (p := ⟨B2, 3, none⟩) hB2le (.slice none 0 0)).setCell (p := ⟨B2, 4, none⟩) hB2le (.int .u64 0)).setCell (p := ⟨B2, 5, none⟩) hB2le (.int .u64 0))
    replace hB7 := Lib.hid hB7
    go_wp2_with fail
    refine bodyPost_ret (results_cell_tmp_rowI rfl _ _ B2 [.slice none 0 0, .int .u64 0, .slice none 0 0, .slice none 0 0, .int .u64 0, .int .u64 0] rfl hB7.out Tryz.isAgg27 Tryz.sizeOf27) rfl ?_
    exact ⟨_, 4, rfl, .inr ⟨rfl, hno.out, rfl⟩, hb7⟩
  by_cases hv1 : vn = 1
  case neg =>
    have q0 : ((c : Int) != 0) = false := by simp; omega
    have q1 : ((vn : Int) != 1) = true := by simp; omega
    have hno : Hid (¬ IsImage s) := Lib.hid (fun h => hv1 ((hI.out.1 h).2.1))
    clear hc0 hc hml hT6 hsz hI hv1 hstb hsth hstz hmpb
    have y0 := box_cell hB6.out 0
    have y1 := box_cell hB6.out 1
    have y2 := box_cell hB6.out 2
    have y3 := box_cell hB6.out 3
    have y4 := box_cell hB6.out 4
    have y5 := box_cell hB6.out 5
    simp at y0 y1 y2 y3 y4 y5
    have g0 := box_free hB6.out 0
    have g1 := box_free hB6.out 1
    have g2 := box_free hB6.out 2
    have g3 := box_free hB6.out 3
    have g4 := box_free hB6.out 4
    have g5 := box_free hB6.out 5
    have hB7 : ((((((w6.setCell ⟨B2, 0, none⟩ (.slice none 0 0)).setCell ⟨B2, 1, none⟩ (.int .u64 0)).setCell ⟨B2, 2, none⟩ (.slice none 0 0)).setCell ⟨B2, 3, none⟩ (.slice none 0 0)).setCell ⟨B2, 4, none⟩ (.int .u64 0)).setCell ⟨B2, 5, none⟩ (.int .u64 0)).heap[B2]? = some (.cells #[.slice none 0 0, .int .u64 0, .slice none 0 0, .slice none 0 0, .int .u64 0, .int .u64 0] 27 (0, 0)) := cells_set (C := [.slice none 0 0, .int .u64 0, .slice none 0 0, .slice none 0 0, .int .u64 0, _]) (cells_set (C := [.slice none 0 0, .int .u64 0, .slice none 0 0, .slice none 0 0, _, _]) (cells_set (C := [.slice none 0 0, .int .u64 0, .slice none 0 0, _, _, _]) (cells_set (C := [.slice none 0 0, .int .u64 0, _, _, _, _]) (cells_set (C := [.slice none 0 0, _, _, _, _, _]) (cells_set (C := [_, _, _, _, _, _]) hB6.out 0 _) 1 _) 2 _) 3 _) 4 _) 5 _
    have hb7 := Lib.hid (((((((hbel.out _ hk6x.out).setCell (p := ⟨B2, 0, none⟩) hB2le (.slice none 0 0)).setCell (p := ⟨B2, 1, none⟩) hB2le (.int .u64 0)).setCell (p := ⟨B2, 2, none⟩) hB2le (.slice none 0 0)).setCell (p := ⟨B2, 3, none⟩) hB2le (.slice none 0 0)).setCell (p := ⟨B2, 4, none⟩) hB2le (.int .u64 0)).setCell (p := ⟨B2, 5, none⟩) hB2le (.int .u64 0))
    replace hB7 := Lib.hid hB7
    go_wp2_with fail
    refine bodyPost_ret (results_cell_tmp_rowI rfl _ _ B2 [.slice none 0 0, .int .u64 0, .slice none 0 0, .slice none 0 0, .int .u64 0, .int .u64 0] rfl hB7.out Tryz.isAgg27 Tryz.sizeOf27) rfl ?_
    exact ⟨_, 4, rfl, .inr ⟨rfl, hno.out, rfl⟩, hb7⟩
  have q0 : ((c : Int) != 0) = false := by simp; omega
  have q1 : ((vn : Int) != 1) = false := by simp; omega
  have hIR : Hid (IsImage s ↔ RightP ⟨lb, n0, hs_, ss, n1, n2⟩) := Lib.hid (by rw [hI.out]; exact ⟨fun h => h.2.2, fun h => ⟨hc.out.1 hc0, hv1, h⟩⟩)
  clear hc0 hv1 hc hI
  have hrt := Lib.hid (rightM_any (.agg #[.slice ab bs.length qb, .int .u64 n0, .slice ah hs_.length qh, .slice az ss.length qz, .int .u64 n1, .int .u64 n2]) hml.out hsz.out)
  have x0 := box_cell hT6.out 0
  have x1 := box_cell hT6.out 1
  have x2 := box_cell hT6.out 2
  have x3 := box_cell hT6.out 3
  have x4 := box_cell hT6.out 4
  have x5 := box_cell hT6.out 5
  simp at x0 x1 x2 x3 x4 x5
  go_wp2_with fail
  refine hrt.out.mono ?_
  rintro e w7 ⟨B, rfl, hB, hb7x⟩
  dsimp only
  have hk7x := Lib.hid (hk6x.out.on hb7x.out)
  have hT7 := Lib.hid (bel_heapR hb7x.out hT6.out)
  have hB7x := Lib.hid (bel_heapR hb7x.out hB6.out)
  clear hrt x0 x1 x2 x3 x4 x5 q0 q1
  cases B with
  | false =>
    have hno : Hid (¬ IsImage s) := Lib.hid (fun h => by have := hB.out.2 (hIR.out.1 h); cases this)
    clear hB hIR hml hT6 hT7 hb7x hsz hstb hsth hstz hmpb
    have y0 := box_cell hB7x.out 0
    have y1 := box_cell hB7x.out 1
    have y2 := box_cell hB7x.out 2
    have y3 := box_cell hB7x.out 3
    have y4 := box_cell hB7x.out 4
    have y5 := box_cell hB7x.out 5
    simp at y0 y1 y2 y3 y4 y5
    have g0 := box_free hB7x.out 0
    have g1 := box_free hB7x.out 1
    have g2 := box_free hB7x.out 2
    have g3 := box_free hB7x.out 3
    have g4 := box_free hB7x.out 4
    have g5 := box_free hB7x.out 5
    have hB7 : ((((((w7.setCell ⟨B2, 0, none⟩ (.slice none 0 0)).setCell ⟨B2, 1, none⟩ (.int .u64 0)).setCell ⟨B2, 2, none⟩ (.slice none 0 0)).setCell ⟨B2, 3, none⟩ (.slice none 0 0)).setCell ⟨B2, 4, none⟩ (.int .u64 0)).setCell ⟨B2, 5, none⟩ (.int .u64 0)).heap[B2]? = some (.cells #[.slice none 0 0, .int .u64 0, .slice none 0 0, .slice none 0 0, .int .u64 0, .int .u64 0] 27 (0, 0)) := cells_set (C := [.slice none 0 0, .int .u64 0, .slice none 0 0, .slice none 0 0, .int .u64 0, _]) (cells_set (C := [.slice none 0 0, .int .u64 0, .slice none 0 0, .slice none 0 0, _, _]) (cells_set (C := [.slice none 0 0, .int .u64 0, .slice none 0 0, _, _, _]) (cells_set (C := [.slice none 0 0, .int .u64 0, _, _, _, _]) (cells_set (C := [.slice none 0 0, _, _, _, _, _]) (cells_set (C := [_, _, _, _, _, _]) hB7x.out 0 _) 1 _) 2 _) 3 _) 4 _) 5 _
    have hb7 := Lib.hid (((((((hbel.out _ hk7x.out).setCell (p := ⟨B2, 0, none⟩) hB2le (.slice none 0 0)).setCell (p := ⟨B2, 1, none⟩) hB2le (.int .u64 0)).setCell (p := ⟨B2, 2, none⟩) hB2le (.slice none 0 0)).setCell (p := ⟨B2, 3, none⟩) hB2le (.slice none 0 0)).setCell (p := ⟨B2, 4, none⟩) hB2le (.int .u64 0)).setCell (p := ⟨B2, 5, none⟩) hB2le (.int .u64 0))
    replace hB7 := Lib.hid hB7
    go_wp2_with fail
    refine bodyPost_ret (results_cell_tmp_rowI rfl _ _ B2 [.slice none 0 0, .int .u64 0, .slice none 0 0, .slice none 0 0, .int .u64 0, .int .u64 0] rfl hB7.out Tryz.isAgg27 Tryz.sizeOf27) rfl ?_
    exact ⟨_, 4, rfl, .inr ⟨rfl, hno.out, rfl⟩, hb7⟩
  | true =>
    have hyes : Hid (IsImage s) := Lib.hid (hIR.out.2 (hB.out.1 rfl))
    clear hB hIR
    have x0 := box_cell hT7.out 0
    have x1 := box_cell hT7.out 1
    have x2 := box_cell hT7.out 2
    have x3 := box_cell hT7.out 3
    have x4 := box_cell hT7.out 4
    have x5 := box_cell hT7.out 5
    simp at x0 x1 x2 x3 x4 x5
    have y0 := box_cell hB7x.out 0
    have y1 := box_cell hB7x.out 1
    have y2 := box_cell hB7x.out 2
    have y3 := box_cell hB7x.out 3
    have y4 := box_cell hB7x.out 4
    have y5 := box_cell hB7x.out 5
    simp at y0 y1 y2 y3 y4 y5
    have g0 := box_free hB7x.out 0
    have g1 := box_free hB7x.out 1
    have g2 := box_free hB7x.out 2
    have g3 := box_free hB7x.out 3
    have g4 := box_free hB7x.out 4
    have g5 := box_free hB7x.out 5
    have hB8 : ((((((w7.setCell ⟨B2, 0, none⟩ (.slice ab bs.length qb)).setCell ⟨B2, 1, none⟩ (.int .u64 n0)).setCell ⟨B2, 2, none⟩ (.slice ah hs_.length qh)).setCell ⟨B2, 3, none⟩ (.slice az ss.length qz)).setCell ⟨B2, 4, none⟩ (.int .u64 n1)).setCell ⟨B2, 5, none⟩ (.int .u64 n2)).heap[B2]? = some (.cells #[.slice ab bs.length qb, .int .u64 n0, .slice ah hs_.length qh, .slice az ss.length qz, .int .u64 n1, .int .u64 n2] 27 (0, 0)) := cells_set (C := [.slice ab bs.length qb, .int .u64 n0, .slice ah hs_.length qh, .slice az ss.length qz, .int .u64 n1, _]) (cells_set (C := [.slice ab bs.length qb, .int .u64 n0, .slice ah hs_.length qh, .slice az ss.length qz, _, _]) (cells_set (C := [.slice ab bs.length qb, .int .u64 n0, .slice ah hs_.length qh, _, _, _]) (cells_set (C := [.slice ab bs.length qb, .int .u64 n0, _, _, _, _]) (cells_set (C := [.slice ab bs.length qb, _, _, _, _, _]) (cells_set (C := [_, _, _, _, _, _]) hB7x.out 0 _) 1 _) 2 _) 3 _) 4 _) 5 _
    have hb8 := Lib.hid (((((((hbel.out _ hk7x.out).setCell (p := ⟨B2, 0, none⟩) hB2le (.slice ab bs.length qb)).setCell (p := ⟨B2, 1, none⟩) hB2le (.int .u64 n0)).setCell (p := ⟨B2, 2, none⟩) hB2le (.slice ah hs_.length qh)).setCell (p := ⟨B2, 3, none⟩) hB2le (.slice az ss.length qz)).setCell (p := ⟨B2, 4, none⟩) hB2le (.int .u64 n1)).setCell (p := ⟨B2, 5, none⟩) hB2le (.int .u64 n2))
    have sb := (((((((hstb.out.below hb7x.out).setLow (B := B2) (by omega) 0 (.slice ab bs.length qb)).setLow (B := B2) (by omega) 1 (.int .u64 n0)).setLow (B := B2) (by omega) 2 (.slice ah hs_.length qh)).setLow (B := B2) (by omega) 3 (.slice az ss.length qz)).setLow (B := B2) (by omega) 4 (.int .u64 n1)).setLow (B := B2) (by omega) 5 (.int .u64 n2))
    have sh := (((((((hsth.out.below hb7x.out).setLow (B := B2) (by omega) 0 (.slice ab bs.length qb)).setLow (B := B2) (by omega) 1 (.int .u64 n0)).setLow (B := B2) (by omega) 2 (.slice ah hs_.length qh)).setLow (B := B2) (by omega) 3 (.slice az ss.length qz)).setLow (B := B2) (by omega) 4 (.int .u64 n1)).setLow (B := B2) (by omega) 5 (.int .u64 n2))
    have sq := (((((((hstz.out.below hb7x.out).setLow (B := B2) (by omega) 0 (.slice ab bs.length qb)).setLow (B := B2) (by omega) 1 (.int .u64 n0)).setLow (B := B2) (by omega) 2 (.slice ah hs_.length qh)).setLow (B := B2) (by omega) 3 (.slice az ss.length qz)).setLow (B := B2) (by omega) 4 (.int .u64 n1)).setLow (B := B2) (by omega) 5 (.int .u64 n2))
    have hin8 : Hid (MlIn ((((((w7.setCell ⟨B2, 0, none⟩ (.slice ab bs.length qb)).setCell ⟨B2, 1, none⟩ (.int .u64 n0)).setCell ⟨B2, 2, none⟩ (.slice ah hs_.length qh)).setCell ⟨B2, 3, none⟩ (.slice az ss.length qz)).setCell ⟨B2, 4, none⟩ (.int .u64 n1)).setCell ⟨B2, 5, none⟩ (.int .u64 n2)) (.agg #[.slice ab bs.length qb, .int .u64 n0, .slice ah hs_.length qh, .slice az ss.length qz, .int .u64 n1, .int .u64 n2]) ⟨lb, n0, hs_, ss, n1, n2⟩) := Lib.hid ⟨_, _, _, bs, rfl, hmpb.out, ⟨sb.now.1, sb.now.2⟩, sh.now.1, sq.now.1⟩
    replace hB8 := Lib.hid hB8
    clear hml hT6 hT7 hb7x hsz sb sh sq hstb hsth hstz hmpb
    go_wp2_with fail
    refine bodyPost_ret (results_cell_tmp_rowI rfl _ _ B2 [.slice ab bs.length qb, .int .u64 n0, .slice ah hs_.length qh, .slice az ss.length qz, .int .u64 n1, .int .u64 n2] rfl hB8.out Tryz.isAgg27 Tryz.sizeOf27) rfl ?_
    exact ⟨_, 0, rfl, .inl ⟨rfl, hyes.out, by rw [hm.out]; exact hin8.out⟩, hb8⟩
end Go.Proofs.YtpkaoiadjffjiaaGreat
namespace Go.Proofs.YtpkaoiadjffjiaaGreat
set_option linter.unusedSimpArgs false
open Go.RowKit
attribute [local go_sem ↓] Go.wp_at_zero Go.wp_at_succ

theorem inew_right : RightP newM where
  lb := by decide
  nv := by show (2 : Nat) ≤ 4294967296; omega
  ns1 := Nat.le_refl _
  ns2 := by show (1 : Nat) ≤ 4611686018427387904; omega
  sw := Nat.zero_le _
  ls := Nat.zero_le _
  boxes := fun b hb => by
    obtain rfl := List.mem_singleton.1 hb
    exact ⟨by kernel_rfl, by kernel_rfl, by decide, by decide, by decide, by show (1 : Nat) ≤ 4294967296; omega, by decide, by show (1 : Nat) ≤ 9223372036854775807; omega, by decide, (fun x hx => by cases hx), List.Pairwise.nil⟩
  names := List.pairwise_singleton _ _
  vals := List.pairwise_singleton _ _
  inbox := ⟨newBx.b, List.mem_singleton.2 rfl, by kernel_rfl⟩
  seated := ⟨(fun h hh => by cases hh), List.Pairwise.nil, (fun h hh => by cases hh), List.Pairwise.nil, List.Pairwise.nil⟩
theorem inew_nums : NumsOk newM := ⟨(fun h hh => by cases hh), (fun h hh => by cases hh)⟩
theorem inew_sz : AnySz newM := light_sz (by kernel_rfl)
theorem inew_lit : imageL newM = [1, 2, 1, 0, 1, 5, 73, 78, 66, 79, 88, 1, 1, 1, 0, 0, 0] := by kernel_rfl
theorem u_lit {u v : ByteArray} (h : u.data.toList = v.data.toList) : u = v := by
  cases u with
  | mk a => cases v with
    | mk b => cases a; cases b; cases h; rfl
/-- the empty state -/
def zM : Ml := ⟨[], 0, [], [], 0, 0⟩
theorem z_in (W : World) : MlIn W (mlVal (.slice none 0 0) 0 (.slice none 0 0) (.slice none 0 0) 0 0) zM :=
  ⟨_, _, _, [], rfl, rfl, ⟨(RT.Own.nil bxT _).rd, fun z hz => by cases hz⟩, (RT.Own.nil hmT _).rd, (RT.Own.nil stT _).rd⟩
theorem z_sz : AnySz zM := light_sz (by kernel_rfl)
/-- a state as six cells -/
theorem MlIn.six {W : World} {v : Value} {m : Ml} (h : MlIn W v m) : ∃ ab cb nb ah ch as_ cs, v = .agg #[.slice ab nb cb, .int .u64 m.nv, .slice ah m.homes.length ch, .slice as_ m.seats.length cs, .int .u64 m.ns, .int .u64 m.sweeps] := by
  obtain ⟨vb, vh, vs, bs, rfl, hbs, hib, hih, his⟩ := h
  obtain ⟨ab, cb, rfl, -⟩ := hib.1
  obtain ⟨ah, ch, rfl, -⟩ := hih
  obtain ⟨as_, cs, rfl, -⟩ := his
  exact ⟨ab, cb, _, ah, ch, as_, cs, rfl⟩
set_option maxRecDepth 100000 in
set_option maxHeartbeats 16000000 in
theorem aliveI_any (W : World) : Calls Tryz.prog 5 #[] W fun e w' => e = .returned (.bool true) ∧ Hid (Below W.heap.size W w') := by
  go_enter Tryz.func5, Tryz.ntmps5
  go_wp2_with fail
  refine (newS_any _).mono ?_
  rintro e w1 ⟨v1, rfl, hN1, hb1⟩
  replace hN1 := Lib.hid hN1.out.now
  obtain ⟨ab, cb, nb, ah, ch, as_, cs, rfl⟩ := hN1.out.six
  go_wp2_with fail
  refine (encode_any _ hN1.out inew_sz (fun _ => inew_nums)).mono ?_
  rintro e w2 ⟨u, c, rfl, hor, hb2⟩
  rcases hor with ⟨rfl, -, hu⟩ | ⟨-, hn⟩
  case inr => exact absurd inew_right hn
  obtain rfl : u = ⟨#[1, 2, 1, 0, 1, 5, 73, 78, 66, 79, 88, 1, 1, 1, 0, 0, 0]⟩ := u_lit (by rw [hu, inew_lit])
  have hbA := Lib.hid (hb1.out.trans (hb2.out.mono hb1.out.size))
  clear hN1 hb1 hb2 hu
  go_wp2_with fail
  refine (decode_any _ (by decide) _).mono ?_
  rintro e w3 ⟨v3, c, rfl, hor, hb3⟩
  have hB : imageR (some [1, 2, 1, 0, 1, 5, 73, 78, 66, 79, 88, 1, 1, 1, 0, 0, 0]) = ((1, newM), some []) := by rw [← inew_lit]; exact image_back inew_right inew_nums
  have hI : IsImage ⟨#[1, 2, 1, 0, 1, 5, 73, 78, 66, 79, 88, 1, 1, 1, 0, 0, 0]⟩ := by
    show (imageR (some [1, 2, 1, 0, 1, 5, 73, 78, 66, 79, 88, 1, 1, 1, 0, 0, 0])).2 = some [] ∧ (imageR (some [1, 2, 1, 0, 1, 5, 73, 78, 66, 79, 88, 1, 1, 1, 0, 0, 0])).1.1 = 1 ∧ RightP (imageR (some [1, 2, 1, 0, 1, 5, 73, 78, 66, 79, 88, 1, 1, 1, 0, 0, 0])).1.2
    rw [hB]; exact ⟨rfl, rfl, inew_right⟩
  rcases hor with ⟨rfl, -, hm⟩ | ⟨-, hn, -⟩
  case inr => exact absurd hI hn
  have hm : MlIn w3 v3 newM := by
    have h : MlIn w3 v3 (imageR (some [1, 2, 1, 0, 1, 5, 73, 78, 66, 79, 88, 1, 1, 1, 0, 0, 0])).1.2 := hm
    rw [hB] at h; exact h
  have hbC := Lib.hid (hbA.out.trans (hb3.out.mono hbA.out.size))
  obtain ⟨ab2, cb2, nb2, ah2, ch2, as2, cs2, rfl⟩ := hm.six
  replace hm := Lib.hid hm
  clear hbA hb3 hB hI
  go_wp2_with fail
  have hz1 := (Zoo.nil w3).newBox #[.slice ab2 nb2 cb2, .int .u64 newM.nv, .slice ah2 newM.homes.length ch2, .slice as2 newM.seats.length cs2, .int .u64 newM.ns, .int .u64 newM.sweeps] 27
  have hmI : Hid (∀ wr, Below w3.heap.size w3 wr → MlIn wr (.agg #[.slice ab2 nb2 cb2, .int .u64 newM.nv, .slice ah2 newM.homes.length ch2, .slice as2 newM.seats.length cs2, .int .u64 newM.ns, .int .u64 newM.sweeps]) newM) := Lib.hid (fun wr h => hm.out.below h)
  generalize hMB : w3.heap.size = MB at hz1 hbC hmI ⊢
  generalize hWa : w3.alloc (.cells #[.slice ab2 nb2 cb2, .int .u64 newM.nv, .slice ah2 newM.homes.length ch2, .slice as2 newM.seats.length cs2, .int .u64 newM.ns, .int .u64 newM.sweeps] 27) = Wa at hz1 ⊢
  have hmb := (hz1.box 0 rfl).1
  have hbA : Below MB w3 Wa := hMB ▸ hz1.bel
  have hS : MB ≤ Wa.heap.size := hMB ▸ hbA.size
  have hcl : Hid (∀ wr, Below Wa.heap.size Wa wr → Wa.heap.size ≤ wr.heap.size) := Lib.hid (fun wr h => h.size)
  have hq : Hid (∀ wr, Below Wa.heap.size Wa wr → wr.cell? ⟨MB, 0, none⟩ = some (.slice ab2 nb2 cb2) ∧ wr.cell? ⟨MB, 1, none⟩ = some (.int .u64 newM.nv) ∧ wr.cell? ⟨MB, 2, none⟩ = some (.slice ah2 newM.homes.length ch2) ∧ wr.cell? ⟨MB, 3, none⟩ = some (.slice as2 newM.seats.length cs2) ∧ wr.cell? ⟨MB, 4, none⟩ = some (.int .u64 newM.ns) ∧ wr.cell? ⟨MB, 5, none⟩ = some (.int .u64 newM.sweeps)) := Lib.hid (fun wr h => by
    have hb := iheap_below hmb h
    exact ⟨box_cell hb 0, box_cell hb 1, box_cell hb 2, box_cell hb 3, box_cell hb 4, box_cell hb 5⟩)
  have hmJ : Hid (∀ wr, Below Wa.heap.size Wa wr → MlIn wr (.agg #[.slice ab2 nb2 cb2, .int .u64 newM.nv, .slice ah2 newM.homes.length ch2, .slice as2 newM.seats.length cs2, .int .u64 newM.ns, .int .u64 newM.sweeps]) newM) := Lib.hid (fun wr h => hmI.out wr (hbA.trans (h.mono hS)))
  have hSN := Lib.hid (fun wr (h : Below Wa.heap.size Wa wr) => (newS_any wr).mono fun e w' (h' : MlNew wr newM e w') => (show ∃ ab cb nb ah ch as_ cs, e = .returned (.agg #[.slice ab nb cb, .int .u64 newM.nv, .slice ah newM.homes.length ch, .slice as_ newM.seats.length cs, .int .u64 newM.ns, .int .u64 newM.sweeps]) ∧ Hid (MlIn w' (.agg #[.slice ab nb cb, .int .u64 newM.nv, .slice ah newM.homes.length ch, .slice as_ newM.seats.length cs, .int .u64 newM.ns, .int .u64 newM.sweeps]) newM) ∧ Below Wa.heap.size Wa w' from by
    obtain ⟨v, rfl, h1, h2⟩ := h'
    have h3 := h1.out.now
    obtain ⟨ab, cb, nb, ah, ch, as_, cs, rfl⟩ := h3.six
    exact ⟨ab, cb, nb, ah, ch, as_, cs, rfl, Lib.hid h3, h.trans (h2.out.mono h.size)⟩))
  have hd0 : Below Wa.heap.size Wa Wa.drew := Below.drew (Below.refl _ _)
  obtain ⟨q0, q1, q2, q3, q4, q5⟩ := hq.out _ hd0
  have hbF : Hid (∀ wr, Below Wa.heap.size Wa wr → Below W.heap.size W wr) := Lib.hid (fun wr h => hbC.out.trans ((hbA.trans (h.mono hS)).mono (hMB ▸ hbC.out.size)))
  have hmx : Tryz.prog.follows .mixedOrders = true := by kernel_rfl
  clear hm hz1 hWa hmb hbA hS hmI hbC hcl
  go_region_with (first
    | (go_at_call 11; refine (hSN.out _ (by assumption)).mono ?_; rintro e w5 ⟨ab5, cb5, nb5, ah5, ch5, as5, cs5, rfl, h5, hd5⟩; obtain ⟨q0, q1, q2, q3, q4, q5⟩ := hq.out _ hd5)
    | (go_at_call 9; refine (sameMl_any _ _ (hmJ.out _ (by assumption)) (Hid.out (by assumption)) inew_sz inew_sz).mono ?_; rintro e w6 ⟨B, rfl, hB, hb6⟩; obtain rfl : B = true := hB.out.2 rfl))
  all_goals (
    go_wp2_with fail
    go_ret
    exact ⟨rfl, Lib.hid (hbF.out _ (hd5.trans (hb6.out.mono hd5.size)))⟩)
end Go.Proofs.YtpkaoiadjffjiaaGreat
