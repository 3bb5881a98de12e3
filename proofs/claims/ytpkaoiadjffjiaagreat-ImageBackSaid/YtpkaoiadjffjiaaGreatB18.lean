/- The closures of image's Decode, which read a text, a letter, a mailbox, a home, a seat: walked. (written by tools/gen_ImI.py) -/
import Derived.Test.YtpkaoiadjffjiaaGreatB17
import Derived.Test.YtpkaoiadjffjiaaGreatB06
import Derived.Laws.ResultCell
namespace Go.Proofs.YtpkaoiadjffjiaaGreat
set_option linter.unusedSimpArgs false
open Go.RowKit
attribute [local go_sem ↓] Go.wp_at_zero Go.wp_at_succ

/-- one result, in a block -/
theorem results_cell_rowI {fn : Func} {p : Tmp} {ty t : TypeId} (h : fn.results = #[.cell p ty]) (tmps : Array Value) (w : World) (B : Nat) (C : List Value) (hp : tmps.getD p undef = .pointer (some ⟨B, 0, none⟩)) (hb : w.heap[B]? = some (.cells C.toArray t (0, 0))) (hagg : ∀ w, (isAgg ty).run Tryz.prog w = .ok true w) (hsz : ∀ w, (Go.sizeOf ty).run Tryz.prog w = .ok C.length w) : (results fn tmps).run Tryz.prog w = .ok (.agg C.toArray) w := by
  have h1 := run_loadCells_list (P := Tryz.prog) w ⟨B, 0, none⟩ C (fun j v hj => by rw [Addr.add_lit, Nat.zero_add, box_cell hb j]; simpa using hj)
  rw [Array.getD_eq_getD_getElem?] at hp
  simp only [results, h]
  simp [Sem.run_bind, Result.andThen, hp, asAddr, loadVar, hagg, hsz, h1]
theorem Kp.setNew {R : Nat} {a w : World} (h : Kp R a w) {B : Nat} (hB : a.heap.size ≤ B) (j : Nat) (u : Value) : Kp R a (w.setCell ⟨B, j, none⟩ u) :=
  ⟨h.os, h.tape, h.output, by simpa using h.size, fun k hk hR => (heap_setCell_other w ⟨B, j, none⟩ k _ (by show k ≠ B; omega)).trans (h.block k hk hR)⟩
theorem RdrAt.setOther {w : World} {R : Nat} {s : ByteArray} {o : PS} (h : RdrAt w R s o) {B : Nat} (hB : R ≠ B) (j : Nat) (u : Value) : RdrAt (w.setCell ⟨B, j, none⟩ u) R s o := by
  obtain ⟨a, e, h1, h2⟩ := h
  exact ⟨a, e, (heap_setCell_other w ⟨B, j, none⟩ R _ hB).trans h1, h2⟩
theorem Stay.setLow {w : World} {P : World → Prop} {n : Nat} (h : Stay (fun k => n ≤ k) w P) {B : Nat} (hB : B < n) (j : Nat) (u : Value) : Stay (fun k => n ≤ k) (w.setCell ⟨B, j, none⟩ u) P :=
  h.on (by simp) (fun k hk _ => heap_setCell_other w ⟨B, j, none⟩ k _ (by show k ≠ B; have h2 : n ≤ k := hk; omega))
theorem heap_otherI {w : World} {B B2 : Nat} {o : Obj} (h : w.heap[B]? = some o) (hne : B ≠ B2) (j : Nat) (u : Value) : (w.setCell ⟨B2, j, none⟩ u).heap[B]? = some o := (heap_setCell_other w ⟨B2, j, none⟩ B _ hne).trans h
theorem heap_newI (w : World) (o : Obj) : (w.alloc o).heap[w.heap.size]? = some o := heap_alloc_new w o
theorem lt_of_heap {w : World} {B : Nat} {o : Obj} (h : w.heap[B]? = some o) : B < w.heap.size := (Array.getElem?_eq_some_iff.1 h).1
/-- a reader, and the cell of the variable that names it -/
def capC (Rb : Nat) : Array Value := #[.pointer (some ⟨Rb, 0, none⟩)]
theorem str_mkI {u : ByteArray} {l : List UInt8} (h : u.data.toList = l) : u = mkB l := by subst h; rfl
set_option maxHeartbeats 4000000 in
theorem clText_any (RC Rb : Nat) (s : ByteArray) (hs : s.size ≤ 1000000000000) (w : World) (o : PS) (hRC : w.heap[RC]? = some (.cells (capC Rb) 57 (0, 0))) (hr : RdrAt w Rb s o) :
    Calls Tryz.prog 26 #[.pointer (some ⟨RC, 0, none⟩)] w (OneRet (α := List UInt8) (fun y => .string (mkB y)) (fun y => y) (fun _ _ => True) Rb s (rText 32 o) w) := by
  have x0 : w.cell? ⟨RC, 0, none⟩ = some (.pointer (some ⟨Rb, 0, none⟩)) := box_cell hRC 0
  have hc := Lib.hid (textR_any s hs Rb o 32 (by decide) w hr)
  generalize rText 32 o = p at hc ⊢
  obtain ⟨t, o2⟩ := p
  dsimp only at hc
  clear hRC hr
  go_enter Tryz.func26, Tryz.ntmps26
  go_wp2_with fail
  refine hc.out.mono ?_
  rintro e w1 ⟨u, rfl, hu, hk, hr1⟩
  obtain rfl : u = mkB t := str_mkI hu.out
  clear hc
  go_wp2_with fail
  go_ret
  exact ⟨t, rfl, Lib.hid rfl, hk, hr1, Lib.hid (fun _ _ => trivial)⟩
set_option maxRecDepth 100000 in
set_option maxHeartbeats 16000000 in
theorem clLetter_any (RC Rb : Nat) (s : ByteArray) (hs : s.size ≤ 1000000000000) (w : World) (o0 : PS) (hRC : w.heap[RC]? = some (.cells (capC Rb) 57 (0, 0))) (hne : RC ≠ Rb) (hr : RdrAt w Rb s o0) :
    Calls Tryz.prog 22 #[.pointer (some ⟨RC, 0, none⟩)] w (OneRet (α := LtV) (fun y : LtV => .agg #[.int .u64 y.x.uid, .slice y.a y.x.flags.length y.c, .int .u64 y.x.mod, .string y.x.hash, .int .u64 y.x.size]) (LtV.x) (fun W y => FlIn W y.v y.x.flags) Rb s (letterR o0) w) := by
  obtain ⟨⟨n0, o1⟩, he0⟩ : ∃ p, rNum M64 o0 = p := ⟨_, rfl⟩
  obtain ⟨⟨n1, o2⟩, he1⟩ : ∃ p, rNum M64 o1 = p := ⟨_, rfl⟩
  obtain ⟨⟨n2, o3⟩, he2⟩ : ∃ p, rNum M64 o2 = p := ⟨_, rfl⟩
  obtain ⟨⟨t3, o4⟩, he3⟩ : ∃ p, rText 32 o3 = p := ⟨_, rfl⟩
  replace he0 := Lib.hid he0
  replace he1 := Lib.hid he1
  replace he2 := Lib.hid he2
  replace he3 := Lib.hid he3
  have hRl := hr.lt
  have hRCl := lt_of_heap hRC
  have hk0 : Kp Rb w (w.alloc (.cells #[.int .u64 0, .slice none 0 0, .int .u64 0, .string ⟨#[]⟩, .int .u64 0] 45)) := (Kp.refl Rb w).on ((Below.refl _ w).alloc (Nat.le_refl _) _)
  have hr0 := hr.on ((Below.refl _ w).alloc (Nat.le_refl _) (.cells #[.int .u64 0, .slice none 0 0, .int .u64 0, .string ⟨#[]⟩, .int .u64 0] 45))
  have hB1 := heap_newI w (.cells #[.int .u64 0, .slice none 0 0, .int .u64 0, .string ⟨#[]⟩, .int .u64 0] 45)
  have hRC0 := hk0.heap hRC hne
  generalize hB1e : w.heap.size = B1 at hB1 hRl hRCl
  generalize hWa : w.alloc (.cells #[.int .u64 0, .slice none 0 0, .int .u64 0, .string ⟨#[]⟩, .int .u64 0] 45) = wa at hk0 hr0 hB1 hRC0
  have hB1l := lt_of_heap hB1
  have hkd := (Kp.refl Rb wa).on ((Below.refl wa.heap.size wa).drew)
  have hrd := hr0.on ((Below.refl wa.heap.size wa).drew)
  have hcap := Lib.hid (fun (w' : World) (h : Kp Rb wa w') => (⟨h.heap hRC0 hne, box_cell (h.heap hRC0 hne) 0⟩ : w'.heap[RC]? = some (.cells (capC Rb) 57 (0, 0)) ∧ w'.cell? ⟨RC, 0, none⟩ = some (.pointer (some ⟨Rb, 0, none⟩))))
  replace hk0 := Lib.hid hk0
  replace hB1 := Lib.hid hB1
  clear hr hRC hr0 hRC0
  go_enter Tryz.func22, Tryz.ntmps22
  go_upto_region 1 with fail
  clear hWa
  go_cut [2] (fun v2 wx => ∃ T2 : Nat, v2 = .pointer (some ⟨T2, 0, none⟩) ∧ Hid (wa.heap.size ≤ T2 ∧ wx.heap[T2]? = some (.cells #[.int .u64 n0, .slice none 0 0, .int .u64 n1, .string (mkB t3), .int .u64 n2] 45 (0, 0))) ∧ Hid (Kp Rb wa wx) ∧ Hid (RdrAt wx Rb s o4))
  case first =>
    refine wp_region_hd (fun w' => w'.cell? ⟨RC, 0, none⟩ = some (.pointer (some ⟨Rb, 0, none⟩))) 10 1 (by kernel_rfl) rfl ⟨by kernel_rfl, by kernel_rfl, by kernel_rfl, by decide⟩ (hcap.out _ hkd).2 (fun hok hS0 => ?_)
    generalize wa.drew = wd at *
    refine Hd.take (i := 0) (v := ?tv1) hok rfl (by kernel_rfl) (fun _ _ _ h => h) (Or.inl ⟨by rfl, ?ty1⟩) (by assumption) ?tr1
    case ty1 => (intro w hSw; (try dsimp only at hSw); go_simp; (try with_reducible rfl))
    try simp only [List.getElem_toArray, List.getElem_cons_succ, List.getElem_cons_zero, Act.put, List.setIfInBounds_toArray, List.set_cons_zero, List.set_cons_succ]
    refine Hd.take (i := 2) (v := ?tv2) hok rfl (by kernel_rfl) (fun _ _ _ h => h) (Or.inl ⟨by rfl, ?ty2⟩) (by assumption) ?tr2
    case ty2 => (intro w hSw; (try dsimp only at hSw); go_simp; (try with_reducible rfl))
    try simp only [List.getElem_toArray, List.getElem_cons_succ, List.getElem_cons_zero, Act.put, List.setIfInBounds_toArray, List.set_cons_zero, List.set_cons_succ]
    refine Hd.take (i := 4) (v := ?tv3) hok rfl (by kernel_rfl) (fun _ _ _ h => h) (Or.inl ⟨by rfl, ?ty3⟩) (by assumption) ?tr3
    case ty3 => (intro w hSw; (try dsimp only at hSw); go_simp; (try with_reducible rfl))
    try simp only [List.getElem_toArray, List.getElem_cons_succ, List.getElem_cons_zero, Act.put, List.setIfInBounds_toArray, List.set_cons_zero, List.set_cons_succ]
    refine Hd.take (i := 6) (v := ?tv4) hok rfl (by kernel_rfl) (fun _ _ _ h => h) (Or.inl ⟨by rfl, ?ty4⟩) (by assumption) ?tr4
    case ty4 => (intro w hSw; (try dsimp only at hSw); go_simp; (try with_reducible rfl))
    try simp only [List.getElem_toArray, List.getElem_cons_succ, List.getElem_cons_zero, Act.put, List.setIfInBounds_toArray, List.set_cons_zero, List.set_cons_succ]
    refine Hd.two (i := 1) (k := 9) rfl rfl (by kernel_rfl) (fun K hK => ?_) (fun K hK => ?_)
    · go_simp
      have hcl := numR_any s hs Rb (o0) wd hrd
      rw [show rNum M64 o0 = (n0, o1) from he0.out] at hcl
      dsimp only at hcl
      refine hcl.mono ?_
      rintro e w1 ⟨rfl, hkx, hrx⟩
      dsimp only
      replace hkd := hkd.trans hkx.out
      replace hrd := hrx.out
      have hSn := (hcap.out _ hkd).2
      refine hK _ _ hSn ?_
      clear hK K hcl hkx hrx
      try simp only [List.getElem_toArray, List.getElem_cons_succ, List.getElem_cons_zero, Act.put, List.setIfInBounds_toArray, List.set_cons_zero, List.set_cons_succ]
      refine Hd.two (i := 3) (k := 9) rfl rfl (by kernel_rfl) (fun K hK => ?_) (fun K hK => ?_)
      · go_simp
        have hcl := numR_any s hs Rb (o1) w1 hrd
        rw [show rNum M64 o1 = (n1, o2) from he1.out] at hcl
        dsimp only at hcl
        refine hcl.mono ?_
        rintro e w2 ⟨rfl, hkx, hrx⟩
        dsimp only
        replace hkd := hkd.trans hkx.out
        replace hrd := hrx.out
        have hSn := (hcap.out _ hkd).2
        refine hK _ _ hSn ?_
        clear hK K hcl hkx hrx
        try simp only [List.getElem_toArray, List.getElem_cons_succ, List.getElem_cons_zero, Act.put, List.setIfInBounds_toArray, List.set_cons_zero, List.set_cons_succ]
        refine Hd.two (i := 5) (k := 9) rfl rfl (by kernel_rfl) (fun K hK => ?_) (fun K hK => ?_)
        · go_simp
          have hcl := numR_any s hs Rb (o2) w2 hrd
          rw [show rNum M64 o2 = (n2, o3) from he2.out] at hcl
          dsimp only at hcl
          refine hcl.mono ?_
          rintro e w3 ⟨rfl, hkx, hrx⟩
          dsimp only
          replace hkd := hkd.trans hkx.out
          replace hrd := hrx.out
          have hSn := (hcap.out _ hkd).2
          refine hK _ _ hSn ?_
          clear hK K hcl hkx hrx
          try simp only [List.getElem_toArray, List.getElem_cons_succ, List.getElem_cons_zero, Act.put, List.setIfInBounds_toArray, List.set_cons_zero, List.set_cons_succ]
          refine Hd.two (i := 7) (k := 9) rfl rfl (by kernel_rfl) (fun K hK => ?_) (fun K hK => ?_)
          · go_simp
            have hcl := textR_any s hs Rb (o3) 32 (by decide) w3 hrd
            rw [show rText 32 o3 = (t3, o4) from he3.out] at hcl
            dsimp only at hcl
            refine hcl.mono ?_
            rintro e w4 ⟨uu, rfl, hu, hkx, hrx⟩
            obtain rfl : uu = mkB t3 := str_mkI hu.out
            clear hu
            dsimp only
            replace hkd := hkd.trans hkx.out
            replace hrd := hrx.out
            have hSn := (hcap.out _ hkd).2
            refine hK _ _ hSn ?_
            clear hK K hcl hkx hrx
            try simp only [List.getElem_toArray, List.getElem_cons_succ, List.getElem_cons_zero, Act.put, List.setIfInBounds_toArray, List.set_cons_zero, List.set_cons_succ]
            refine Hd.take (i := 8) (v := ?tv5) hok rfl (by kernel_rfl) (fun _ _ _ h => h) (Or.inl ⟨by rfl, ?ty5⟩) (by assumption) ?tr5
            case ty5 => (intro w hSw; (try dsimp only at hSw); go_simp; (try with_reducible rfl))
            try simp only [List.getElem_toArray, List.getElem_cons_succ, List.getElem_cons_zero, Act.put, List.setIfInBounds_toArray, List.set_cons_zero, List.set_cons_succ]
            refine Hd.one (i := 9) rfl (by kernel_rfl) (fun K hK => ?_)
            go_simp
            have hb9 := (Below.refl w4.heap.size w4).alloc (Nat.le_refl _) (.cells #[.int .u64 0, .slice none 0 0, .int .u64 0, .string ⟨#[]⟩, .int .u64 0] 45)
            have hT := heap_newI w4 (.cells #[.int .u64 0, .slice none 0 0, .int .u64 0, .string ⟨#[]⟩, .int .u64 0] 45)
            have hTs : wa.heap.size ≤ w4.heap.size := hkd.size
            have hTR : Rb < w4.heap.size := hrd.lt
            generalize hTe : w4.heap.size = T2 at hT hTs hTR hb9
            replace hkd := hkd.on (by rw [hTe]; exact hb9)
            replace hrd := hrd.on (by rw [hTe]; exact hb9)
            generalize w4.alloc (.cells #[.int .u64 0, .slice none 0 0, .int .u64 0, .string ⟨#[]⟩, .int .u64 0] 45) = w4b at hT hkd hrd ⊢
            clear hb9 hTe
            have hSn := (hcap.out _ hkd).2
            refine hK _ _ hSn ?_
            clear hK K
            try simp only [List.getElem_toArray, List.getElem_cons_succ, List.getElem_cons_zero, Act.put, List.setIfInBounds_toArray, List.set_cons_zero, List.set_cons_succ]
            refine Hd.done (by kernel_rfl) ?_
            simp only [List.drop_succ_cons, List.drop_zero]
            have z0 := box_cell hT 0
            have z1 := box_cell hT 1
            have z2 := box_cell hT 2
            have z3 := box_cell hT 3
            have z4 := box_cell hT 4
            simp at z0 z1 z2 z3 z4
            have f0 := box_free hT 0
            have f1 := box_free hT 1
            have f2 := box_free hT 2
            have f3 := box_free hT 3
            have f4 := box_free hT 4
            have hTn : ((((((w4b.setCell ⟨T2, 0, none⟩ (.int .u64 n0)).setCell ⟨T2, 1, none⟩ (.slice none 0 0)).setCell ⟨T2, 2, none⟩ (.int .u64 n1)).setCell ⟨T2, 3, none⟩ (.string (mkB t3))).setCell ⟨T2, 4, none⟩ (.int .u64 n2)).heap[T2]? = some (.cells #[.int .u64 n0, .slice none 0 0, .int .u64 n1, .string (mkB t3), .int .u64 n2] 45 (0, 0))) := cells_set (C := [.int .u64 n0, .slice none 0 0, .int .u64 n1, .string (mkB t3), _]) (cells_set (C := [.int .u64 n0, .slice none 0 0, .int .u64 n1, _, _]) (cells_set (C := [.int .u64 n0, .slice none 0 0, _, _, _]) (cells_set (C := [.int .u64 n0, _, _, _, _]) (cells_set (C := [_, _, _, _, _]) hT 0 _) 1 _) 2 _) 3 _) 4 _
            have hkn := Lib.hid (((((hkd.setNew hTs 0 (.int .u64 n0)).setNew hTs 1 (.slice none 0 0)).setNew hTs 2 (.int .u64 n1)).setNew hTs 3 (.string (mkB t3))).setNew hTs 4 (.int .u64 n2))
            have hrn := Lib.hid (((((hrd.setOther (Nat.ne_of_lt hTR) 0 (.int .u64 n0)).setOther (Nat.ne_of_lt hTR) 1 (.slice none 0 0)).setOther (Nat.ne_of_lt hTR) 2 (.int .u64 n1)).setOther (Nat.ne_of_lt hTR) 3 (.string (mkB t3))).setOther (Nat.ne_of_lt hTR) 4 (.int .u64 n2))
            replace hTn := Lib.hid (And.intro hTs hTn)
            clear hok hS0 hSn hkd hrd hT
            go_wp2_with fail
            go_meet
            case rel => exact ⟨T2, rfl, hTn, hkn, hrn⟩
          · go_simp
            have hb9 := (Below.refl w3.heap.size w3).alloc (Nat.le_refl _) (.cells #[.int .u64 0, .slice none 0 0, .int .u64 0, .string ⟨#[]⟩, .int .u64 0] 45)
            have hT := heap_newI w3 (.cells #[.int .u64 0, .slice none 0 0, .int .u64 0, .string ⟨#[]⟩, .int .u64 0] 45)
            have hTs : wa.heap.size ≤ w3.heap.size := hkd.size
            have hTR : Rb < w3.heap.size := hrd.lt
            generalize hTe : w3.heap.size = T2 at hT hTs hTR hb9
            replace hkd := hkd.on (by rw [hTe]; exact hb9)
            replace hrd := hrd.on (by rw [hTe]; exact hb9)
            generalize w3.alloc (.cells #[.int .u64 0, .slice none 0 0, .int .u64 0, .string ⟨#[]⟩, .int .u64 0] 45) = w3b at hT hkd hrd ⊢
            clear hb9 hTe
            have hSn := (hcap.out _ hkd).2
            refine hK _ _ hSn ?_
            clear hK K
            try simp only [List.getElem_toArray, List.getElem_cons_succ, List.getElem_cons_zero, Act.put, List.setIfInBounds_toArray, List.set_cons_zero, List.set_cons_succ]
            refine Hd.one (i := 7) rfl (by kernel_rfl) (fun K hK => ?_)
            go_simp
            have hcl := textR_any s hs Rb (o3) 32 (by decide) w3b hrd
            rw [show rText 32 o3 = (t3, o4) from he3.out] at hcl
            dsimp only at hcl
            refine hcl.mono ?_
            rintro e w4a ⟨uu, rfl, hu, hkx, hrx⟩
            obtain rfl : uu = mkB t3 := str_mkI hu.out
            clear hu
            dsimp only
            replace hT := hkx.out.heap hT (by omega)
            replace hkd := hkd.trans hkx.out
            replace hrd := hrx.out
            have hSn := (hcap.out _ hkd).2
            refine hK _ _ hSn ?_
            clear hK K hcl hkx hrx
            try simp only [List.getElem_toArray, List.getElem_cons_succ, List.getElem_cons_zero, Act.put, List.setIfInBounds_toArray, List.set_cons_zero, List.set_cons_succ]
            refine Hd.take (i := 8) (v := ?tv6) hok rfl (by kernel_rfl) (fun _ _ _ h => h) (Or.inl ⟨by rfl, ?ty6⟩) (by assumption) ?tr6
            case ty6 => (intro w hSw; (try dsimp only at hSw); go_simp; (try with_reducible rfl))
            try simp only [List.getElem_toArray, List.getElem_cons_succ, List.getElem_cons_zero, Act.put, List.setIfInBounds_toArray, List.set_cons_zero, List.set_cons_succ]
            refine Hd.done (by kernel_rfl) ?_
            simp only [List.drop_succ_cons, List.drop_zero]
            have z0 := box_cell hT 0
            have z1 := box_cell hT 1
            have z2 := box_cell hT 2
            have z3 := box_cell hT 3
            have z4 := box_cell hT 4
            simp at z0 z1 z2 z3 z4
            have f0 := box_free hT 0
            have f1 := box_free hT 1
            have f2 := box_free hT 2
            have f3 := box_free hT 3
            have f4 := box_free hT 4
            have hTn : ((((((w4a.setCell ⟨T2, 0, none⟩ (.int .u64 n0)).setCell ⟨T2, 1, none⟩ (.slice none 0 0)).setCell ⟨T2, 2, none⟩ (.int .u64 n1)).setCell ⟨T2, 3, none⟩ (.string (mkB t3))).setCell ⟨T2, 4, none⟩ (.int .u64 n2)).heap[T2]? = some (.cells #[.int .u64 n0, .slice none 0 0, .int .u64 n1, .string (mkB t3), .int .u64 n2] 45 (0, 0))) := cells_set (C := [.int .u64 n0, .slice none 0 0, .int .u64 n1, .string (mkB t3), _]) (cells_set (C := [.int .u64 n0, .slice none 0 0, .int .u64 n1, _, _]) (cells_set (C := [.int .u64 n0, .slice none 0 0, _, _, _]) (cells_set (C := [.int .u64 n0, _, _, _, _]) (cells_set (C := [_, _, _, _, _]) hT 0 _) 1 _) 2 _) 3 _) 4 _
            have hkn := Lib.hid (((((hkd.setNew hTs 0 (.int .u64 n0)).setNew hTs 1 (.slice none 0 0)).setNew hTs 2 (.int .u64 n1)).setNew hTs 3 (.string (mkB t3))).setNew hTs 4 (.int .u64 n2))
            have hrn := Lib.hid (((((hrd.setOther (Nat.ne_of_lt hTR) 0 (.int .u64 n0)).setOther (Nat.ne_of_lt hTR) 1 (.slice none 0 0)).setOther (Nat.ne_of_lt hTR) 2 (.int .u64 n1)).setOther (Nat.ne_of_lt hTR) 3 (.string (mkB t3))).setOther (Nat.ne_of_lt hTR) 4 (.int .u64 n2))
            replace hTn := Lib.hid (And.intro hTs hTn)
            clear hok hS0 hSn hkd hrd hT
            go_wp2_with fail
            go_meet
            case rel => exact ⟨T2, rfl, hTn, hkn, hrn⟩
        · go_simp
          have hb9 := (Below.refl w2.heap.size w2).alloc (Nat.le_refl _) (.cells #[.int .u64 0, .slice none 0 0, .int .u64 0, .string ⟨#[]⟩, .int .u64 0] 45)
          have hT := heap_newI w2 (.cells #[.int .u64 0, .slice none 0 0, .int .u64 0, .string ⟨#[]⟩, .int .u64 0] 45)
          have hTs : wa.heap.size ≤ w2.heap.size := hkd.size
          have hTR : Rb < w2.heap.size := hrd.lt
          generalize hTe : w2.heap.size = T2 at hT hTs hTR hb9
          replace hkd := hkd.on (by rw [hTe]; exact hb9)
          replace hrd := hrd.on (by rw [hTe]; exact hb9)
          generalize w2.alloc (.cells #[.int .u64 0, .slice none 0 0, .int .u64 0, .string ⟨#[]⟩, .int .u64 0] 45) = w2b at hT hkd hrd ⊢
          clear hb9 hTe
          have hSn := (hcap.out _ hkd).2
          refine hK _ _ hSn ?_
          clear hK K
          try simp only [List.getElem_toArray, List.getElem_cons_succ, List.getElem_cons_zero, Act.put, List.setIfInBounds_toArray, List.set_cons_zero, List.set_cons_succ]
          refine Hd.one (i := 5) rfl (by kernel_rfl) (fun K hK => ?_)
          go_simp
          have hcl := numR_any s hs Rb (o2) w2b hrd
          rw [show rNum M64 o2 = (n2, o3) from he2.out] at hcl
          dsimp only at hcl
          refine hcl.mono ?_
          rintro e w3a ⟨rfl, hkx, hrx⟩
          dsimp only
          replace hT := hkx.out.heap hT (by omega)
          replace hkd := hkd.trans hkx.out
          replace hrd := hrx.out
          have hSn := (hcap.out _ hkd).2
          refine hK _ _ hSn ?_
          clear hK K hcl hkx hrx
          try simp only [List.getElem_toArray, List.getElem_cons_succ, List.getElem_cons_zero, Act.put, List.setIfInBounds_toArray, List.set_cons_zero, List.set_cons_succ]
          refine Hd.one (i := 7) rfl (by kernel_rfl) (fun K hK => ?_)
          go_simp
          have hcl := textR_any s hs Rb (o3) 32 (by decide) w3a hrd
          rw [show rText 32 o3 = (t3, o4) from he3.out] at hcl
          dsimp only at hcl
          refine hcl.mono ?_
          rintro e w4a ⟨uu, rfl, hu, hkx, hrx⟩
          obtain rfl : uu = mkB t3 := str_mkI hu.out
          clear hu
          dsimp only
          replace hT := hkx.out.heap hT (by omega)
          replace hkd := hkd.trans hkx.out
          replace hrd := hrx.out
          have hSn := (hcap.out _ hkd).2
          refine hK _ _ hSn ?_
          clear hK K hcl hkx hrx
          try simp only [List.getElem_toArray, List.getElem_cons_succ, List.getElem_cons_zero, Act.put, List.setIfInBounds_toArray, List.set_cons_zero, List.set_cons_succ]
          refine Hd.take (i := 8) (v := ?tv7) hok rfl (by kernel_rfl) (fun _ _ _ h => h) (Or.inl ⟨by rfl, ?ty7⟩) (by assumption) ?tr7
          case ty7 => (intro w hSw; (try dsimp only at hSw); go_simp; (try with_reducible rfl))
          try simp only [List.getElem_toArray, List.getElem_cons_succ, List.getElem_cons_zero, Act.put, List.setIfInBounds_toArray, List.set_cons_zero, List.set_cons_succ]
          refine Hd.done (by kernel_rfl) ?_
          simp only [List.drop_succ_cons, List.drop_zero]
          have z0 := box_cell hT 0
          have z1 := box_cell hT 1
          have z2 := box_cell hT 2
          have z3 := box_cell hT 3
          have z4 := box_cell hT 4
          simp at z0 z1 z2 z3 z4
          have f0 := box_free hT 0
          have f1 := box_free hT 1
          have f2 := box_free hT 2
          have f3 := box_free hT 3
          have f4 := box_free hT 4
          have hTn : ((((((w4a.setCell ⟨T2, 0, none⟩ (.int .u64 n0)).setCell ⟨T2, 1, none⟩ (.slice none 0 0)).setCell ⟨T2, 2, none⟩ (.int .u64 n1)).setCell ⟨T2, 3, none⟩ (.string (mkB t3))).setCell ⟨T2, 4, none⟩ (.int .u64 n2)).heap[T2]? = some (.cells #[.int .u64 n0, .slice none 0 0, .int .u64 n1, .string (mkB t3), .int .u64 n2] 45 (0, 0))) := cells_set (C := [.int .u64 n0, .slice none 0 0, .int .u64 n1, .string (mkB t3), _]) (cells_set (C := [.int .u64 n0, .slice none 0 0, .int .u64 n1, _, _]) (cells_set (C := [.int .u64 n0, .slice none 0 0, _, _, _]) (cells_set (C := [.int .u64 n0, _, _, _, _]) (cells_set (C := [_, _, _, _, _]) hT 0 _) 1 _) 2 _) 3 _) 4 _
          have hkn := Lib.hid (((((hkd.setNew hTs 0 (.int .u64 n0)).setNew hTs 1 (.slice none 0 0)).setNew hTs 2 (.int .u64 n1)).setNew hTs 3 (.string (mkB t3))).setNew hTs 4 (.int .u64 n2))
          have hrn := Lib.hid (((((hrd.setOther (Nat.ne_of_lt hTR) 0 (.int .u64 n0)).setOther (Nat.ne_of_lt hTR) 1 (.slice none 0 0)).setOther (Nat.ne_of_lt hTR) 2 (.int .u64 n1)).setOther (Nat.ne_of_lt hTR) 3 (.string (mkB t3))).setOther (Nat.ne_of_lt hTR) 4 (.int .u64 n2))
          replace hTn := Lib.hid (And.intro hTs hTn)
          clear hok hS0 hSn hkd hrd hT
          go_wp2_with fail
          go_meet
          case rel => exact ⟨T2, rfl, hTn, hkn, hrn⟩
      · go_simp
        have hb9 := (Below.refl w1.heap.size w1).alloc (Nat.le_refl _) (.cells #[.int .u64 0, .slice none 0 0, .int .u64 0, .string ⟨#[]⟩, .int .u64 0] 45)
        have hT := heap_newI w1 (.cells #[.int .u64 0, .slice none 0 0, .int .u64 0, .string ⟨#[]⟩, .int .u64 0] 45)
        have hTs : wa.heap.size ≤ w1.heap.size := hkd.size
        have hTR : Rb < w1.heap.size := hrd.lt
        generalize hTe : w1.heap.size = T2 at hT hTs hTR hb9
        replace hkd := hkd.on (by rw [hTe]; exact hb9)
        replace hrd := hrd.on (by rw [hTe]; exact hb9)
        generalize w1.alloc (.cells #[.int .u64 0, .slice none 0 0, .int .u64 0, .string ⟨#[]⟩, .int .u64 0] 45) = w1b at hT hkd hrd ⊢
        clear hb9 hTe
        have hSn := (hcap.out _ hkd).2
        refine hK _ _ hSn ?_
        clear hK K
        try simp only [List.getElem_toArray, List.getElem_cons_succ, List.getElem_cons_zero, Act.put, List.setIfInBounds_toArray, List.set_cons_zero, List.set_cons_succ]
        refine Hd.one (i := 3) rfl (by kernel_rfl) (fun K hK => ?_)
        go_simp
        have hcl := numR_any s hs Rb (o1) w1b hrd
        rw [show rNum M64 o1 = (n1, o2) from he1.out] at hcl
        dsimp only at hcl
        refine hcl.mono ?_
        rintro e w2a ⟨rfl, hkx, hrx⟩
        dsimp only
        replace hT := hkx.out.heap hT (by omega)
        replace hkd := hkd.trans hkx.out
        replace hrd := hrx.out
        have hSn := (hcap.out _ hkd).2
        refine hK _ _ hSn ?_
        clear hK K hcl hkx hrx
        try simp only [List.getElem_toArray, List.getElem_cons_succ, List.getElem_cons_zero, Act.put, List.setIfInBounds_toArray, List.set_cons_zero, List.set_cons_succ]
        refine Hd.one (i := 5) rfl (by kernel_rfl) (fun K hK => ?_)
        go_simp
        have hcl := numR_any s hs Rb (o2) w2a hrd
        rw [show rNum M64 o2 = (n2, o3) from he2.out] at hcl
        dsimp only at hcl
        refine hcl.mono ?_
        rintro e w3a ⟨rfl, hkx, hrx⟩
        dsimp only
        replace hT := hkx.out.heap hT (by omega)
        replace hkd := hkd.trans hkx.out
        replace hrd := hrx.out
        have hSn := (hcap.out _ hkd).2
        refine hK _ _ hSn ?_
        clear hK K hcl hkx hrx
        try simp only [List.getElem_toArray, List.getElem_cons_succ, List.getElem_cons_zero, Act.put, List.setIfInBounds_toArray, List.set_cons_zero, List.set_cons_succ]
        refine Hd.one (i := 7) rfl (by kernel_rfl) (fun K hK => ?_)
        go_simp
        have hcl := textR_any s hs Rb (o3) 32 (by decide) w3a hrd
        rw [show rText 32 o3 = (t3, o4) from he3.out] at hcl
        dsimp only at hcl
        refine hcl.mono ?_
        rintro e w4a ⟨uu, rfl, hu, hkx, hrx⟩
        obtain rfl : uu = mkB t3 := str_mkI hu.out
        clear hu
        dsimp only
        replace hT := hkx.out.heap hT (by omega)
        replace hkd := hkd.trans hkx.out
        replace hrd := hrx.out
        have hSn := (hcap.out _ hkd).2
        refine hK _ _ hSn ?_
        clear hK K hcl hkx hrx
        try simp only [List.getElem_toArray, List.getElem_cons_succ, List.getElem_cons_zero, Act.put, List.setIfInBounds_toArray, List.set_cons_zero, List.set_cons_succ]
        refine Hd.take (i := 8) (v := ?tv8) hok rfl (by kernel_rfl) (fun _ _ _ h => h) (Or.inl ⟨by rfl, ?ty8⟩) (by assumption) ?tr8
        case ty8 => (intro w hSw; (try dsimp only at hSw); go_simp; (try with_reducible rfl))
        try simp only [List.getElem_toArray, List.getElem_cons_succ, List.getElem_cons_zero, Act.put, List.setIfInBounds_toArray, List.set_cons_zero, List.set_cons_succ]
        refine Hd.done (by kernel_rfl) ?_
        simp only [List.drop_succ_cons, List.drop_zero]
        have z0 := box_cell hT 0
        have z1 := box_cell hT 1
        have z2 := box_cell hT 2
        have z3 := box_cell hT 3
        have z4 := box_cell hT 4
        simp at z0 z1 z2 z3 z4
        have f0 := box_free hT 0
        have f1 := box_free hT 1
        have f2 := box_free hT 2
        have f3 := box_free hT 3
        have f4 := box_free hT 4
        have hTn : ((((((w4a.setCell ⟨T2, 0, none⟩ (.int .u64 n0)).setCell ⟨T2, 1, none⟩ (.slice none 0 0)).setCell ⟨T2, 2, none⟩ (.int .u64 n1)).setCell ⟨T2, 3, none⟩ (.string (mkB t3))).setCell ⟨T2, 4, none⟩ (.int .u64 n2)).heap[T2]? = some (.cells #[.int .u64 n0, .slice none 0 0, .int .u64 n1, .string (mkB t3), .int .u64 n2] 45 (0, 0))) := cells_set (C := [.int .u64 n0, .slice none 0 0, .int .u64 n1, .string (mkB t3), _]) (cells_set (C := [.int .u64 n0, .slice none 0 0, .int .u64 n1, _, _]) (cells_set (C := [.int .u64 n0, .slice none 0 0, _, _, _]) (cells_set (C := [.int .u64 n0, _, _, _, _]) (cells_set (C := [_, _, _, _, _]) hT 0 _) 1 _) 2 _) 3 _) 4 _
        have hkn := Lib.hid (((((hkd.setNew hTs 0 (.int .u64 n0)).setNew hTs 1 (.slice none 0 0)).setNew hTs 2 (.int .u64 n1)).setNew hTs 3 (.string (mkB t3))).setNew hTs 4 (.int .u64 n2))
        have hrn := Lib.hid (((((hrd.setOther (Nat.ne_of_lt hTR) 0 (.int .u64 n0)).setOther (Nat.ne_of_lt hTR) 1 (.slice none 0 0)).setOther (Nat.ne_of_lt hTR) 2 (.int .u64 n1)).setOther (Nat.ne_of_lt hTR) 3 (.string (mkB t3))).setOther (Nat.ne_of_lt hTR) 4 (.int .u64 n2))
        replace hTn := Lib.hid (And.intro hTs hTn)
        clear hok hS0 hSn hkd hrd hT
        go_wp2_with fail
        go_meet
        case rel => exact ⟨T2, rfl, hTn, hkn, hrn⟩
    · go_simp
      have hb9 := (Below.refl wd.heap.size wd).alloc (Nat.le_refl _) (.cells #[.int .u64 0, .slice none 0 0, .int .u64 0, .string ⟨#[]⟩, .int .u64 0] 45)
      have hT := heap_newI wd (.cells #[.int .u64 0, .slice none 0 0, .int .u64 0, .string ⟨#[]⟩, .int .u64 0] 45)
      have hTs : wa.heap.size ≤ wd.heap.size := hkd.size
      have hTR : Rb < wd.heap.size := hrd.lt
      generalize hTe : wd.heap.size = T2 at hT hTs hTR hb9
      replace hkd := hkd.on (by rw [hTe]; exact hb9)
      replace hrd := hrd.on (by rw [hTe]; exact hb9)
      generalize wd.alloc (.cells #[.int .u64 0, .slice none 0 0, .int .u64 0, .string ⟨#[]⟩, .int .u64 0] 45) = wdb at hT hkd hrd ⊢
      clear hb9 hTe
      have hSn := (hcap.out _ hkd).2
      refine hK _ _ hSn ?_
      clear hK K
      try simp only [List.getElem_toArray, List.getElem_cons_succ, List.getElem_cons_zero, Act.put, List.setIfInBounds_toArray, List.set_cons_zero, List.set_cons_succ]
      refine Hd.one (i := 1) rfl (by kernel_rfl) (fun K hK => ?_)
      go_simp
      have hcl := numR_any s hs Rb (o0) wdb hrd
      rw [show rNum M64 o0 = (n0, o1) from he0.out] at hcl
      dsimp only at hcl
      refine hcl.mono ?_
      rintro e w1a ⟨rfl, hkx, hrx⟩
      dsimp only
      replace hT := hkx.out.heap hT (by omega)
      replace hkd := hkd.trans hkx.out
      replace hrd := hrx.out
      have hSn := (hcap.out _ hkd).2
      refine hK _ _ hSn ?_
      clear hK K hcl hkx hrx
      try simp only [List.getElem_toArray, List.getElem_cons_succ, List.getElem_cons_zero, Act.put, List.setIfInBounds_toArray, List.set_cons_zero, List.set_cons_succ]
      refine Hd.one (i := 3) rfl (by kernel_rfl) (fun K hK => ?_)
      go_simp
      have hcl := numR_any s hs Rb (o1) w1a hrd
      rw [show rNum M64 o1 = (n1, o2) from he1.out] at hcl
      dsimp only at hcl
      refine hcl.mono ?_
      rintro e w2a ⟨rfl, hkx, hrx⟩
      dsimp only
      replace hT := hkx.out.heap hT (by omega)
      replace hkd := hkd.trans hkx.out
      replace hrd := hrx.out
      have hSn := (hcap.out _ hkd).2
      refine hK _ _ hSn ?_
      clear hK K hcl hkx hrx
      try simp only [List.getElem_toArray, List.getElem_cons_succ, List.getElem_cons_zero, Act.put, List.setIfInBounds_toArray, List.set_cons_zero, List.set_cons_succ]
      refine Hd.one (i := 5) rfl (by kernel_rfl) (fun K hK => ?_)
      go_simp
      have hcl := numR_any s hs Rb (o2) w2a hrd
      rw [show rNum M64 o2 = (n2, o3) from he2.out] at hcl
      dsimp only at hcl
      refine hcl.mono ?_
      rintro e w3a ⟨rfl, hkx, hrx⟩
      dsimp only
      replace hT := hkx.out.heap hT (by omega)
      replace hkd := hkd.trans hkx.out
      replace hrd := hrx.out
      have hSn := (hcap.out _ hkd).2
      refine hK _ _ hSn ?_
      clear hK K hcl hkx hrx
      try simp only [List.getElem_toArray, List.getElem_cons_succ, List.getElem_cons_zero, Act.put, List.setIfInBounds_toArray, List.set_cons_zero, List.set_cons_succ]
      refine Hd.one (i := 7) rfl (by kernel_rfl) (fun K hK => ?_)
      go_simp
      have hcl := textR_any s hs Rb (o3) 32 (by decide) w3a hrd
      rw [show rText 32 o3 = (t3, o4) from he3.out] at hcl
      dsimp only at hcl
      refine hcl.mono ?_
      rintro e w4a ⟨uu, rfl, hu, hkx, hrx⟩
      obtain rfl : uu = mkB t3 := str_mkI hu.out
      clear hu
      dsimp only
      replace hT := hkx.out.heap hT (by omega)
      replace hkd := hkd.trans hkx.out
      replace hrd := hrx.out
      have hSn := (hcap.out _ hkd).2
      refine hK _ _ hSn ?_
      clear hK K hcl hkx hrx
      try simp only [List.getElem_toArray, List.getElem_cons_succ, List.getElem_cons_zero, Act.put, List.setIfInBounds_toArray, List.set_cons_zero, List.set_cons_succ]
      refine Hd.take (i := 8) (v := ?tv9) hok rfl (by kernel_rfl) (fun _ _ _ h => h) (Or.inl ⟨by rfl, ?ty9⟩) (by assumption) ?tr9
      case ty9 => (intro w hSw; (try dsimp only at hSw); go_simp; (try with_reducible rfl))
      try simp only [List.getElem_toArray, List.getElem_cons_succ, List.getElem_cons_zero, Act.put, List.setIfInBounds_toArray, List.set_cons_zero, List.set_cons_succ]
      refine Hd.done (by kernel_rfl) ?_
      simp only [List.drop_succ_cons, List.drop_zero]
      have z0 := box_cell hT 0
      have z1 := box_cell hT 1
      have z2 := box_cell hT 2
      have z3 := box_cell hT 3
      have z4 := box_cell hT 4
      simp at z0 z1 z2 z3 z4
      have f0 := box_free hT 0
      have f1 := box_free hT 1
      have f2 := box_free hT 2
      have f3 := box_free hT 3
      have f4 := box_free hT 4
      have hTn : ((((((w4a.setCell ⟨T2, 0, none⟩ (.int .u64 n0)).setCell ⟨T2, 1, none⟩ (.slice none 0 0)).setCell ⟨T2, 2, none⟩ (.int .u64 n1)).setCell ⟨T2, 3, none⟩ (.string (mkB t3))).setCell ⟨T2, 4, none⟩ (.int .u64 n2)).heap[T2]? = some (.cells #[.int .u64 n0, .slice none 0 0, .int .u64 n1, .string (mkB t3), .int .u64 n2] 45 (0, 0))) := cells_set (C := [.int .u64 n0, .slice none 0 0, .int .u64 n1, .string (mkB t3), _]) (cells_set (C := [.int .u64 n0, .slice none 0 0, .int .u64 n1, _, _]) (cells_set (C := [.int .u64 n0, .slice none 0 0, _, _, _]) (cells_set (C := [.int .u64 n0, _, _, _, _]) (cells_set (C := [_, _, _, _, _]) hT 0 _) 1 _) 2 _) 3 _) 4 _
      have hkn := Lib.hid (((((hkd.setNew hTs 0 (.int .u64 n0)).setNew hTs 1 (.slice none 0 0)).setNew hTs 2 (.int .u64 n1)).setNew hTs 3 (.string (mkB t3))).setNew hTs 4 (.int .u64 n2))
      have hrn := Lib.hid (((((hrd.setOther (Nat.ne_of_lt hTR) 0 (.int .u64 n0)).setOther (Nat.ne_of_lt hTR) 1 (.slice none 0 0)).setOther (Nat.ne_of_lt hTR) 2 (.int .u64 n1)).setOther (Nat.ne_of_lt hTR) 3 (.string (mkB t3))).setOther (Nat.ne_of_lt hTR) 4 (.int .u64 n2))
      replace hTn := Lib.hid (And.intro hTs hTn)
      clear hok hS0 hSn hkd hrd hT
      go_wp2_with fail
      go_meet
      case rel => exact ⟨T2, rfl, hTn, hkn, hrn⟩
  case rest =>
  obtain ⟨T2, rfl, hT, hkx, hrx⟩ := hcut
  generalize wc = wx at *
  obtain ⟨hRCx, c0⟩ := hcap.out wx hkx.out
  have hrcall := Lib.hid (read_strs_any Rb RC s hs (rText 32) 16 (by decide) o4 wx hrx.out (fun w2 p hk2 hr2 => clText_any RC Rb s hs w2 p (hk2.heap hRCx hne) hr2))
  have hTl := lt_of_heap hT.out.2
  have hB1n : B1 ≠ Rb := by omega
  have hBx := hkx.out.heap hB1.out hB1n
  have hB1x := lt_of_heap hBx
  have hT2R : T2 ≠ Rb := by have := hT.out.1; omega
  have hT2B : T2 ≠ B1 := by have := hT.out.1; omega
  clear hcap
  go_wp2_with fail
  refine hrcall.out.mono ?_
  rintro e w5 ⟨v5, rows, rfl, hmp, hk5, hr5, hst5⟩
  obtain ⟨ao, cap, hv5, -⟩ := hst5.out.now.1
  subst hv5
  have hT5 := hk5.out.heap hT.out.2 hT2R
  have hB5 := hk5.out.heap hBx hB1n
  have t0f := box_cell hT5 1
  simp at t0f
  have f0 := box_free hT5 1
  have hT6 : (w5.setCell ⟨T2, 1, none⟩ (.slice ao rows.length cap)).heap[T2]? = some (.cells #[.int .u64 n0, .slice ao rows.length cap, .int .u64 n1, .string (mkB t3), .int .u64 n2] 45 (0, 0)) := cells_set (C := [.int .u64 n0, .slice none 0 0, .int .u64 n1, .string (mkB t3), .int .u64 n2]) hT5 1 _
  have hB6 := heap_otherI hB5 (Ne.symm hT2B) 1 (.slice ao rows.length cap)
  have hk6 := ((hkx.out.trans hk5.out).setNew hT.out.1 1 (.slice ao rows.length cap))
  have hr6 := hr5.out.setOther (Ne.symm hT2R) 1 (.slice ao rows.length cap)
  have hst6 := hst5.out.setLow hTl 1 (.slice ao rows.length cap)
  clear hrcall hT5 hB5 c0
  go_upto_region 3 with fail
  clear t0f f0
  generalize w5.setCell ⟨T2, 1, none⟩ (.slice ao rows.length cap) = w6 at hT6 hB6 hk6 hr6 hst6 ⊢
  have y0 := box_cell hT6 0
  have y1 := box_cell hT6 1
  have y2 := box_cell hT6 2
  have y3 := box_cell hT6 3
  have y4 := box_cell hT6 4
  simp at y0 y1 y2 y3 y4
  have z0 := box_cell hB6 0
  have z1 := box_cell hB6 1
  have z2 := box_cell hB6 2
  have z3 := box_cell hB6 3
  have z4 := box_cell hB6 4
  simp at z0 z1 z2 z3 z4
  have g0 := box_free hB6 0
  have g1 := box_free hB6 1
  have g2 := box_free hB6 2
  have g3 := box_free hB6 3
  have g4 := box_free hB6 4
  have hB7 : ((((((w6.setCell ⟨B1, 0, none⟩ (.int .u64 n0)).setCell ⟨B1, 1, none⟩ (.slice ao rows.length cap)).setCell ⟨B1, 2, none⟩ (.int .u64 n1)).setCell ⟨B1, 3, none⟩ (.string (mkB t3))).setCell ⟨B1, 4, none⟩ (.int .u64 n2)).heap[B1]? = some (.cells #[.int .u64 n0, .slice ao rows.length cap, .int .u64 n1, .string (mkB t3), .int .u64 n2] 45 (0, 0))) := cells_set (C := [.int .u64 n0, .slice ao rows.length cap, .int .u64 n1, .string (mkB t3), _]) (cells_set (C := [.int .u64 n0, .slice ao rows.length cap, .int .u64 n1, _, _]) (cells_set (C := [.int .u64 n0, .slice ao rows.length cap, _, _, _]) (cells_set (C := [.int .u64 n0, _, _, _, _]) (cells_set (C := [_, _, _, _, _]) hB6 0 _) 1 _) 2 _) 3 _) 4 _
  have hBs : w.heap.size ≤ B1 := Nat.le_of_eq hB1e
  have hk7 := ((((((hk0.out.trans hk6).setNew hBs 0 (.int .u64 n0)).setNew hBs 1 (.slice ao rows.length cap)).setNew hBs 2 (.int .u64 n1)).setNew hBs 3 (.string (mkB t3))).setNew hBs 4 (.int .u64 n2))
  have hRB : Rb ≠ B1 := Ne.symm hB1n
  have hr7 := (((((hr6.setOther hRB 0 (.int .u64 n0)).setOther hRB 1 (.slice ao rows.length cap)).setOther hRB 2 (.int .u64 n1)).setOther hRB 3 (.string (mkB t3))).setOther hRB 4 (.int .u64 n2))
  have hst7 := (((((hst6.setLow hB1x 0 (.int .u64 n0)).setLow hB1x 1 (.slice ao rows.length cap)).setLow hB1x 2 (.int .u64 n1)).setLow hB1x 3 (.string (mkB t3))).setLow hB1x 4 (.int .u64 n2))
  replace hB7 := Lib.hid hB7
  replace hk7 := Lib.hid hk7
  replace hr5 := Lib.hid hr7
  replace hst5 := Lib.hid hst7
  have hsz5 : Hid (w.heap.size ≤ wx.heap.size) := Lib.hid (hk0.out.trans hkx.out).size
  clear hT6 hB6 hk6 hr6 hst6 hr7 hst7 hT hkx hrx hBx hk5 hk0 hB1
  go_wp2_with fail
  refine bodyPost_ret (results_cell_rowI rfl _ _ B1 [.int .u64 n0, .slice ao rows.length cap, .int .u64 n1, .string (mkB t3), .int .u64 n2] rfl hB7.out Tryz.isAgg45 Tryz.sizeOf45) rfl ?_
  refine ⟨⟨⟨n0, rows, n1, mkB t3, n2⟩, ao, cap⟩, rfl, Lib.hid (by
      show (⟨n0, rows, n1, mkB t3, n2⟩ : Lt) = (letterR o0).1
      have h1 := hmp.out
      have h2 : rows.map (fun y => y) = rows := List.map_id _
      rw [h2] at h1
      unfold letterR
      simp only [he0.out, he1.out, he2.out, he3.out]
      rw [h1]), hk7, Lib.hid (by
      have h1 := hr5.out
      have h2 : (letterR o0).2 = (rList 16 (rText 32) o4).2 := by
        unfold letterR
        simp only [he0.out, he1.out, he2.out, he3.out]
      rw [h2]; exact h1), Lib.hid ?_⟩
  exact ((hst5.out.mono (fun W h => by have h1 := h.1; rw [flT_cells] at h1; exact h1))).weak (fun k _ hk => Nat.le_trans hsz5.out hk)
set_option maxRecDepth 100000 in
set_option maxHeartbeats 16000000 in
theorem clBox_any (RC LC Rb : Nat) (s : ByteArray) (hs : s.size ≤ 1000000000000) (w : World) (o0 : PS) (hRC : w.heap[RC]? = some (.cells (capC Rb) 57 (0, 0))) (hne : RC ≠ Rb) (hLC : w.heap[LC]? = some (.cells #[.func (.func 22) #[] #[.pointer (some ⟨RC, 0, none⟩)]] 63 (0, 0))) (hLne : LC ≠ Rb) (hr : RdrAt w Rb s o0) :
    Calls Tryz.prog 27 #[.pointer (some ⟨RC, 0, none⟩), .pointer (some ⟨LC, 0, none⟩)] w (OneRet (α := BxV) (fun y : BxV => .agg #[.string y.name, .int .u64 y.validity, .int .u64 y.next, .int .u64 y.high, .slice y.a y.rows.length y.c]) (BxV.b) (fun W y => LtsIn W y.v y.rows) Rb s (boxR o0) w) := by
  obtain ⟨⟨t0, o1⟩, he0⟩ : ∃ p, rText 64 o0 = p := ⟨_, rfl⟩
  obtain ⟨⟨n1, o2⟩, he1⟩ : ∃ p, rNum M64 o1 = p := ⟨_, rfl⟩
  obtain ⟨⟨n2, o3⟩, he2⟩ : ∃ p, rNum M64 o2 = p := ⟨_, rfl⟩
  obtain ⟨⟨n3, o4⟩, he3⟩ : ∃ p, rNum M64 o3 = p := ⟨_, rfl⟩
  replace he0 := Lib.hid he0
  replace he1 := Lib.hid he1
  replace he2 := Lib.hid he2
  replace he3 := Lib.hid he3
  have hRl := hr.lt
  have hRCl := lt_of_heap hRC
  have hk0 : Kp Rb w (w.alloc (.cells #[.string ⟨#[]⟩, .int .u64 0, .int .u64 0, .int .u64 0, .slice none 0 0] 40)) := (Kp.refl Rb w).on ((Below.refl _ w).alloc (Nat.le_refl _) _)
  have hr0 := hr.on ((Below.refl _ w).alloc (Nat.le_refl _) (.cells #[.string ⟨#[]⟩, .int .u64 0, .int .u64 0, .int .u64 0, .slice none 0 0] 40))
  have hB1 := heap_newI w (.cells #[.string ⟨#[]⟩, .int .u64 0, .int .u64 0, .int .u64 0, .slice none 0 0] 40)
  have hRC0 := hk0.heap hRC hne
  generalize hB1e : w.heap.size = B1 at hB1 hRl hRCl
  generalize hWa : w.alloc (.cells #[.string ⟨#[]⟩, .int .u64 0, .int .u64 0, .int .u64 0, .slice none 0 0] 40) = wa at hk0 hr0 hB1 hRC0
  have hB1l := lt_of_heap hB1
  have hkd := (Kp.refl Rb wa).on ((Below.refl wa.heap.size wa).drew)
  have hrd := hr0.on ((Below.refl wa.heap.size wa).drew)
  have hcap := Lib.hid (fun (w' : World) (h : Kp Rb wa w') => (⟨h.heap hRC0 hne, box_cell (h.heap hRC0 hne) 0⟩ : w'.heap[RC]? = some (.cells (capC Rb) 57 (0, 0)) ∧ w'.cell? ⟨RC, 0, none⟩ = some (.pointer (some ⟨Rb, 0, none⟩))))
  have hLC0 := hk0.heap hLC hLne
  have hlc := Lib.hid (fun (w' : World) (h : Kp Rb wa w') => (⟨h.heap hLC0 hLne, box_cell (h.heap hLC0 hLne) 0⟩ : w'.heap[LC]? = some (.cells #[.func (.func 22) #[] #[.pointer (some ⟨RC, 0, none⟩)]] 63 (0, 0)) ∧ w'.cell? ⟨LC, 0, none⟩ = some (.func (.func 22) #[] #[.pointer (some ⟨RC, 0, none⟩)])))
  clear hLC0
  replace hk0 := Lib.hid hk0
  replace hB1 := Lib.hid hB1
  clear hr hRC hr0 hRC0 hLC
  go_enter Tryz.func27, Tryz.ntmps27
  go_upto_region 1 with fail
  clear hWa
  go_cut [3] (fun v2 wx => ∃ T2 : Nat, v2 = .pointer (some ⟨T2, 0, none⟩) ∧ Hid (wa.heap.size ≤ T2 ∧ wx.heap[T2]? = some (.cells #[.string (mkB t0), .int .u64 n1, .int .u64 n2, .int .u64 n3, .slice none 0 0] 40 (0, 0))) ∧ Hid (Kp Rb wa wx) ∧ Hid (RdrAt wx Rb s o4))
  case first =>
    refine wp_region_hd (fun w' => w'.cell? ⟨RC, 0, none⟩ = some (.pointer (some ⟨Rb, 0, none⟩))) 10 1 (by kernel_rfl) rfl ⟨by kernel_rfl, by kernel_rfl, by kernel_rfl, by decide⟩ (hcap.out _ hkd).2 (fun hok hS0 => ?_)
    generalize wa.drew = wd at *
    refine Hd.take (i := 0) (v := ?tv10) hok rfl (by kernel_rfl) (fun _ _ _ h => h) (Or.inl ⟨by rfl, ?ty10⟩) (by assumption) ?tr10
    case ty10 => (intro w hSw; (try dsimp only at hSw); go_simp; (try with_reducible rfl))
    try simp only [List.getElem_toArray, List.getElem_cons_succ, List.getElem_cons_zero, Act.put, List.setIfInBounds_toArray, List.set_cons_zero, List.set_cons_succ]
    refine Hd.take (i := 2) (v := ?tv11) hok rfl (by kernel_rfl) (fun _ _ _ h => h) (Or.inl ⟨by rfl, ?ty11⟩) (by assumption) ?tr11
    case ty11 => (intro w hSw; (try dsimp only at hSw); go_simp; (try with_reducible rfl))
    try simp only [List.getElem_toArray, List.getElem_cons_succ, List.getElem_cons_zero, Act.put, List.setIfInBounds_toArray, List.set_cons_zero, List.set_cons_succ]
    refine Hd.take (i := 4) (v := ?tv12) hok rfl (by kernel_rfl) (fun _ _ _ h => h) (Or.inl ⟨by rfl, ?ty12⟩) (by assumption) ?tr12
    case ty12 => (intro w hSw; (try dsimp only at hSw); go_simp; (try with_reducible rfl))
    try simp only [List.getElem_toArray, List.getElem_cons_succ, List.getElem_cons_zero, Act.put, List.setIfInBounds_toArray, List.set_cons_zero, List.set_cons_succ]
    refine Hd.take (i := 6) (v := ?tv13) hok rfl (by kernel_rfl) (fun _ _ _ h => h) (Or.inl ⟨by rfl, ?ty13⟩) (by assumption) ?tr13
    case ty13 => (intro w hSw; (try dsimp only at hSw); go_simp; (try with_reducible rfl))
    try simp only [List.getElem_toArray, List.getElem_cons_succ, List.getElem_cons_zero, Act.put, List.setIfInBounds_toArray, List.set_cons_zero, List.set_cons_succ]
    refine Hd.two (i := 1) (k := 9) rfl rfl (by kernel_rfl) (fun K hK => ?_) (fun K hK => ?_)
    · go_simp
      have hcl := textR_any s hs Rb (o0) 64 (by decide) wd hrd
      rw [show rText 64 o0 = (t0, o1) from he0.out] at hcl
      dsimp only at hcl
      refine hcl.mono ?_
      rintro e w1 ⟨uu, rfl, hu, hkx, hrx⟩
      obtain rfl : uu = mkB t0 := str_mkI hu.out
      clear hu
      dsimp only
      replace hkd := hkd.trans hkx.out
      replace hrd := hrx.out
      have hSn := (hcap.out _ hkd).2
      refine hK _ _ hSn ?_
      clear hK K hcl hkx hrx
      try simp only [List.getElem_toArray, List.getElem_cons_succ, List.getElem_cons_zero, Act.put, List.setIfInBounds_toArray, List.set_cons_zero, List.set_cons_succ]
      refine Hd.two (i := 3) (k := 9) rfl rfl (by kernel_rfl) (fun K hK => ?_) (fun K hK => ?_)
      · go_simp
        have hcl := numR_any s hs Rb (o1) w1 hrd
        rw [show rNum M64 o1 = (n1, o2) from he1.out] at hcl
        dsimp only at hcl
        refine hcl.mono ?_
        rintro e w2 ⟨rfl, hkx, hrx⟩
        dsimp only
        replace hkd := hkd.trans hkx.out
        replace hrd := hrx.out
        have hSn := (hcap.out _ hkd).2
        refine hK _ _ hSn ?_
        clear hK K hcl hkx hrx
        try simp only [List.getElem_toArray, List.getElem_cons_succ, List.getElem_cons_zero, Act.put, List.setIfInBounds_toArray, List.set_cons_zero, List.set_cons_succ]
        refine Hd.two (i := 5) (k := 9) rfl rfl (by kernel_rfl) (fun K hK => ?_) (fun K hK => ?_)
        · go_simp
          have hcl := numR_any s hs Rb (o2) w2 hrd
          rw [show rNum M64 o2 = (n2, o3) from he2.out] at hcl
          dsimp only at hcl
          refine hcl.mono ?_
          rintro e w3 ⟨rfl, hkx, hrx⟩
          dsimp only
          replace hkd := hkd.trans hkx.out
          replace hrd := hrx.out
          have hSn := (hcap.out _ hkd).2
          refine hK _ _ hSn ?_
          clear hK K hcl hkx hrx
          try simp only [List.getElem_toArray, List.getElem_cons_succ, List.getElem_cons_zero, Act.put, List.setIfInBounds_toArray, List.set_cons_zero, List.set_cons_succ]
          refine Hd.two (i := 7) (k := 9) rfl rfl (by kernel_rfl) (fun K hK => ?_) (fun K hK => ?_)
          · go_simp
            have hcl := numR_any s hs Rb (o3) w3 hrd
            rw [show rNum M64 o3 = (n3, o4) from he3.out] at hcl
            dsimp only at hcl
            refine hcl.mono ?_
            rintro e w4 ⟨rfl, hkx, hrx⟩
            dsimp only
            replace hkd := hkd.trans hkx.out
            replace hrd := hrx.out
            have hSn := (hcap.out _ hkd).2
            refine hK _ _ hSn ?_
            clear hK K hcl hkx hrx
            try simp only [List.getElem_toArray, List.getElem_cons_succ, List.getElem_cons_zero, Act.put, List.setIfInBounds_toArray, List.set_cons_zero, List.set_cons_succ]
            refine Hd.take (i := 8) (v := ?tv14) hok rfl (by kernel_rfl) (fun _ _ _ h => h) (Or.inl ⟨by rfl, ?ty14⟩) (by assumption) ?tr14
            case ty14 => (intro w hSw; (try dsimp only at hSw); go_simp; (try with_reducible rfl))
            try simp only [List.getElem_toArray, List.getElem_cons_succ, List.getElem_cons_zero, Act.put, List.setIfInBounds_toArray, List.set_cons_zero, List.set_cons_succ]
            refine Hd.one (i := 9) rfl (by kernel_rfl) (fun K hK => ?_)
            go_simp
            have hb9 := (Below.refl w4.heap.size w4).alloc (Nat.le_refl _) (.cells #[.string ⟨#[]⟩, .int .u64 0, .int .u64 0, .int .u64 0, .slice none 0 0] 40)
            have hT := heap_newI w4 (.cells #[.string ⟨#[]⟩, .int .u64 0, .int .u64 0, .int .u64 0, .slice none 0 0] 40)
            have hTs : wa.heap.size ≤ w4.heap.size := hkd.size
            have hTR : Rb < w4.heap.size := hrd.lt
            generalize hTe : w4.heap.size = T2 at hT hTs hTR hb9
            replace hkd := hkd.on (by rw [hTe]; exact hb9)
            replace hrd := hrd.on (by rw [hTe]; exact hb9)
            generalize w4.alloc (.cells #[.string ⟨#[]⟩, .int .u64 0, .int .u64 0, .int .u64 0, .slice none 0 0] 40) = w4b at hT hkd hrd ⊢
            clear hb9 hTe
            have hSn := (hcap.out _ hkd).2
            refine hK _ _ hSn ?_
            clear hK K
            try simp only [List.getElem_toArray, List.getElem_cons_succ, List.getElem_cons_zero, Act.put, List.setIfInBounds_toArray, List.set_cons_zero, List.set_cons_succ]
            refine Hd.done (by kernel_rfl) ?_
            simp only [List.drop_succ_cons, List.drop_zero]
            have z0 := box_cell hT 0
            have z1 := box_cell hT 1
            have z2 := box_cell hT 2
            have z3 := box_cell hT 3
            have z4 := box_cell hT 4
            simp at z0 z1 z2 z3 z4
            have f0 := box_free hT 0
            have f1 := box_free hT 1
            have f2 := box_free hT 2
            have f3 := box_free hT 3
            have f4 := box_free hT 4
            have hTn : ((((((w4b.setCell ⟨T2, 0, none⟩ (.string (mkB t0))).setCell ⟨T2, 1, none⟩ (.int .u64 n1)).setCell ⟨T2, 2, none⟩ (.int .u64 n2)).setCell ⟨T2, 3, none⟩ (.int .u64 n3)).setCell ⟨T2, 4, none⟩ (.slice none 0 0)).heap[T2]? = some (.cells #[.string (mkB t0), .int .u64 n1, .int .u64 n2, .int .u64 n3, .slice none 0 0] 40 (0, 0))) := cells_set (C := [.string (mkB t0), .int .u64 n1, .int .u64 n2, .int .u64 n3, _]) (cells_set (C := [.string (mkB t0), .int .u64 n1, .int .u64 n2, _, _]) (cells_set (C := [.string (mkB t0), .int .u64 n1, _, _, _]) (cells_set (C := [.string (mkB t0), _, _, _, _]) (cells_set (C := [_, _, _, _, _]) hT 0 _) 1 _) 2 _) 3 _) 4 _
            have hkn := Lib.hid (((((hkd.setNew hTs 0 (.string (mkB t0))).setNew hTs 1 (.int .u64 n1)).setNew hTs 2 (.int .u64 n2)).setNew hTs 3 (.int .u64 n3)).setNew hTs 4 (.slice none 0 0))
            have hrn := Lib.hid (((((hrd.setOther (Nat.ne_of_lt hTR) 0 (.string (mkB t0))).setOther (Nat.ne_of_lt hTR) 1 (.int .u64 n1)).setOther (Nat.ne_of_lt hTR) 2 (.int .u64 n2)).setOther (Nat.ne_of_lt hTR) 3 (.int .u64 n3)).setOther (Nat.ne_of_lt hTR) 4 (.slice none 0 0))
            replace hTn := Lib.hid (And.intro hTs hTn)
            clear hok hS0 hSn hkd hrd hT
            go_wp2_with fail
            go_meet
            case rel => exact ⟨T2, rfl, hTn, hkn, hrn⟩
          · go_simp
            have hb9 := (Below.refl w3.heap.size w3).alloc (Nat.le_refl _) (.cells #[.string ⟨#[]⟩, .int .u64 0, .int .u64 0, .int .u64 0, .slice none 0 0] 40)
            have hT := heap_newI w3 (.cells #[.string ⟨#[]⟩, .int .u64 0, .int .u64 0, .int .u64 0, .slice none 0 0] 40)
            have hTs : wa.heap.size ≤ w3.heap.size := hkd.size
            have hTR : Rb < w3.heap.size := hrd.lt
            generalize hTe : w3.heap.size = T2 at hT hTs hTR hb9
            replace hkd := hkd.on (by rw [hTe]; exact hb9)
            replace hrd := hrd.on (by rw [hTe]; exact hb9)
            generalize w3.alloc (.cells #[.string ⟨#[]⟩, .int .u64 0, .int .u64 0, .int .u64 0, .slice none 0 0] 40) = w3b at hT hkd hrd ⊢
            clear hb9 hTe
            have hSn := (hcap.out _ hkd).2
            refine hK _ _ hSn ?_
            clear hK K
            try simp only [List.getElem_toArray, List.getElem_cons_succ, List.getElem_cons_zero, Act.put, List.setIfInBounds_toArray, List.set_cons_zero, List.set_cons_succ]
            refine Hd.one (i := 7) rfl (by kernel_rfl) (fun K hK => ?_)
            go_simp
            have hcl := numR_any s hs Rb (o3) w3b hrd
            rw [show rNum M64 o3 = (n3, o4) from he3.out] at hcl
            dsimp only at hcl
            refine hcl.mono ?_
            rintro e w4a ⟨rfl, hkx, hrx⟩
            dsimp only
            replace hT := hkx.out.heap hT (by omega)
            replace hkd := hkd.trans hkx.out
            replace hrd := hrx.out
            have hSn := (hcap.out _ hkd).2
            refine hK _ _ hSn ?_
            clear hK K hcl hkx hrx
            try simp only [List.getElem_toArray, List.getElem_cons_succ, List.getElem_cons_zero, Act.put, List.setIfInBounds_toArray, List.set_cons_zero, List.set_cons_succ]
            refine Hd.take (i := 8) (v := ?tv15) hok rfl (by kernel_rfl) (fun _ _ _ h => h) (Or.inl ⟨by rfl, ?ty15⟩) (by assumption) ?tr15
            case ty15 => (intro w hSw; (try dsimp only at hSw); go_simp; (try with_reducible rfl))
            try simp only [List.getElem_toArray, List.getElem_cons_succ, List.getElem_cons_zero, Act.put, List.setIfInBounds_toArray, List.set_cons_zero, List.set_cons_succ]
            refine Hd.done (by kernel_rfl) ?_
            simp only [List.drop_succ_cons, List.drop_zero]
            have z0 := box_cell hT 0
            have z1 := box_cell hT 1
            have z2 := box_cell hT 2
            have z3 := box_cell hT 3
            have z4 := box_cell hT 4
            simp at z0 z1 z2 z3 z4
            have f0 := box_free hT 0
            have f1 := box_free hT 1
            have f2 := box_free hT 2
            have f3 := box_free hT 3
            have f4 := box_free hT 4
            have hTn : ((((((w4a.setCell ⟨T2, 0, none⟩ (.string (mkB t0))).setCell ⟨T2, 1, none⟩ (.int .u64 n1)).setCell ⟨T2, 2, none⟩ (.int .u64 n2)).setCell ⟨T2, 3, none⟩ (.int .u64 n3)).setCell ⟨T2, 4, none⟩ (.slice none 0 0)).heap[T2]? = some (.cells #[.string (mkB t0), .int .u64 n1, .int .u64 n2, .int .u64 n3, .slice none 0 0] 40 (0, 0))) := cells_set (C := [.string (mkB t0), .int .u64 n1, .int .u64 n2, .int .u64 n3, _]) (cells_set (C := [.string (mkB t0), .int .u64 n1, .int .u64 n2, _, _]) (cells_set (C := [.string (mkB t0), .int .u64 n1, _, _, _]) (cells_set (C := [.string (mkB t0), _, _, _, _]) (cells_set (C := [_, _, _, _, _]) hT 0 _) 1 _) 2 _) 3 _) 4 _
            have hkn := Lib.hid (((((hkd.setNew hTs 0 (.string (mkB t0))).setNew hTs 1 (.int .u64 n1)).setNew hTs 2 (.int .u64 n2)).setNew hTs 3 (.int .u64 n3)).setNew hTs 4 (.slice none 0 0))
            have hrn := Lib.hid (((((hrd.setOther (Nat.ne_of_lt hTR) 0 (.string (mkB t0))).setOther (Nat.ne_of_lt hTR) 1 (.int .u64 n1)).setOther (Nat.ne_of_lt hTR) 2 (.int .u64 n2)).setOther (Nat.ne_of_lt hTR) 3 (.int .u64 n3)).setOther (Nat.ne_of_lt hTR) 4 (.slice none 0 0))
            replace hTn := Lib.hid (And.intro hTs hTn)
            clear hok hS0 hSn hkd hrd hT
            go_wp2_with fail
            go_meet
            case rel => exact ⟨T2, rfl, hTn, hkn, hrn⟩
        · go_simp
          have hb9 := (Below.refl w2.heap.size w2).alloc (Nat.le_refl _) (.cells #[.string ⟨#[]⟩, .int .u64 0, .int .u64 0, .int .u64 0, .slice none 0 0] 40)
          have hT := heap_newI w2 (.cells #[.string ⟨#[]⟩, .int .u64 0, .int .u64 0, .int .u64 0, .slice none 0 0] 40)
          have hTs : wa.heap.size ≤ w2.heap.size := hkd.size
          have hTR : Rb < w2.heap.size := hrd.lt
          generalize hTe : w2.heap.size = T2 at hT hTs hTR hb9
          replace hkd := hkd.on (by rw [hTe]; exact hb9)
          replace hrd := hrd.on (by rw [hTe]; exact hb9)
          generalize w2.alloc (.cells #[.string ⟨#[]⟩, .int .u64 0, .int .u64 0, .int .u64 0, .slice none 0 0] 40) = w2b at hT hkd hrd ⊢
          clear hb9 hTe
          have hSn := (hcap.out _ hkd).2
          refine hK _ _ hSn ?_
          clear hK K
          try simp only [List.getElem_toArray, List.getElem_cons_succ, List.getElem_cons_zero, Act.put, List.setIfInBounds_toArray, List.set_cons_zero, List.set_cons_succ]
          refine Hd.one (i := 5) rfl (by kernel_rfl) (fun K hK => ?_)
          go_simp
          have hcl := numR_any s hs Rb (o2) w2b hrd
          rw [show rNum M64 o2 = (n2, o3) from he2.out] at hcl
          dsimp only at hcl
          refine hcl.mono ?_
          rintro e w3a ⟨rfl, hkx, hrx⟩
          dsimp only
          replace hT := hkx.out.heap hT (by omega)
          replace hkd := hkd.trans hkx.out
          replace hrd := hrx.out
          have hSn := (hcap.out _ hkd).2
          refine hK _ _ hSn ?_
          clear hK K hcl hkx hrx
          try simp only [List.getElem_toArray, List.getElem_cons_succ, List.getElem_cons_zero, Act.put, List.setIfInBounds_toArray, List.set_cons_zero, List.set_cons_succ]
          refine Hd.one (i := 7) rfl (by kernel_rfl) (fun K hK => ?_)
          go_simp
          have hcl := numR_any s hs Rb (o3) w3a hrd
          rw [show rNum M64 o3 = (n3, o4) from he3.out] at hcl
          dsimp only at hcl
          refine hcl.mono ?_
          rintro e w4a ⟨rfl, hkx, hrx⟩
          dsimp only
          replace hT := hkx.out.heap hT (by omega)
          replace hkd := hkd.trans hkx.out
          replace hrd := hrx.out
          have hSn := (hcap.out _ hkd).2
          refine hK _ _ hSn ?_
          clear hK K hcl hkx hrx
          try simp only [List.getElem_toArray, List.getElem_cons_succ, List.getElem_cons_zero, Act.put, List.setIfInBounds_toArray, List.set_cons_zero, List.set_cons_succ]
          refine Hd.take (i := 8) (v := ?tv16) hok rfl (by kernel_rfl) (fun _ _ _ h => h) (Or.inl ⟨by rfl, ?ty16⟩) (by assumption) ?tr16
          case ty16 => (intro w hSw; (try dsimp only at hSw); go_simp; (try with_reducible rfl))
          try simp only [List.getElem_toArray, List.getElem_cons_succ, List.getElem_cons_zero, Act.put, List.setIfInBounds_toArray, List.set_cons_zero, List.set_cons_succ]
          refine Hd.done (by kernel_rfl) ?_
          simp only [List.drop_succ_cons, List.drop_zero]
          have z0 := box_cell hT 0
          have z1 := box_cell hT 1
          have z2 := box_cell hT 2
          have z3 := box_cell hT 3
          have z4 := box_cell hT 4
          simp at z0 z1 z2 z3 z4
          have f0 := box_free hT 0
          have f1 := box_free hT 1
          have f2 := box_free hT 2
          have f3 := box_free hT 3
          have f4 := box_free hT 4
          have hTn : ((((((w4a.setCell ⟨T2, 0, none⟩ (.string (mkB t0))).setCell ⟨T2, 1, none⟩ (.int .u64 n1)).setCell ⟨T2, 2, none⟩ (.int .u64 n2)).setCell ⟨T2, 3, none⟩ (.int .u64 n3)).setCell ⟨T2, 4, none⟩ (.slice none 0 0)).heap[T2]? = some (.cells #[.string (mkB t0), .int .u64 n1, .int .u64 n2, .int .u64 n3, .slice none 0 0] 40 (0, 0))) := cells_set (C := [.string (mkB t0), .int .u64 n1, .int .u64 n2, .int .u64 n3, _]) (cells_set (C := [.string (mkB t0), .int .u64 n1, .int .u64 n2, _, _]) (cells_set (C := [.string (mkB t0), .int .u64 n1, _, _, _]) (cells_set (C := [.string (mkB t0), _, _, _, _]) (cells_set (C := [_, _, _, _, _]) hT 0 _) 1 _) 2 _) 3 _) 4 _
          have hkn := Lib.hid (((((hkd.setNew hTs 0 (.string (mkB t0))).setNew hTs 1 (.int .u64 n1)).setNew hTs 2 (.int .u64 n2)).setNew hTs 3 (.int .u64 n3)).setNew hTs 4 (.slice none 0 0))
          have hrn := Lib.hid (((((hrd.setOther (Nat.ne_of_lt hTR) 0 (.string (mkB t0))).setOther (Nat.ne_of_lt hTR) 1 (.int .u64 n1)).setOther (Nat.ne_of_lt hTR) 2 (.int .u64 n2)).setOther (Nat.ne_of_lt hTR) 3 (.int .u64 n3)).setOther (Nat.ne_of_lt hTR) 4 (.slice none 0 0))
          replace hTn := Lib.hid (And.intro hTs hTn)
          clear hok hS0 hSn hkd hrd hT
          go_wp2_with fail
          go_meet
          case rel => exact ⟨T2, rfl, hTn, hkn, hrn⟩
      · go_simp
        have hb9 := (Below.refl w1.heap.size w1).alloc (Nat.le_refl _) (.cells #[.string ⟨#[]⟩, .int .u64 0, .int .u64 0, .int .u64 0, .slice none 0 0] 40)
        have hT := heap_newI w1 (.cells #[.string ⟨#[]⟩, .int .u64 0, .int .u64 0, .int .u64 0, .slice none 0 0] 40)
        have hTs : wa.heap.size ≤ w1.heap.size := hkd.size
        have hTR : Rb < w1.heap.size := hrd.lt
        generalize hTe : w1.heap.size = T2 at hT hTs hTR hb9
        replace hkd := hkd.on (by rw [hTe]; exact hb9)
        replace hrd := hrd.on (by rw [hTe]; exact hb9)
        generalize w1.alloc (.cells #[.string ⟨#[]⟩, .int .u64 0, .int .u64 0, .int .u64 0, .slice none 0 0] 40) = w1b at hT hkd hrd ⊢
        clear hb9 hTe
        have hSn := (hcap.out _ hkd).2
        refine hK _ _ hSn ?_
        clear hK K
        try simp only [List.getElem_toArray, List.getElem_cons_succ, List.getElem_cons_zero, Act.put, List.setIfInBounds_toArray, List.set_cons_zero, List.set_cons_succ]
        refine Hd.one (i := 3) rfl (by kernel_rfl) (fun K hK => ?_)
        go_simp
        have hcl := numR_any s hs Rb (o1) w1b hrd
        rw [show rNum M64 o1 = (n1, o2) from he1.out] at hcl
        dsimp only at hcl
        refine hcl.mono ?_
        rintro e w2a ⟨rfl, hkx, hrx⟩
        dsimp only
        replace hT := hkx.out.heap hT (by omega)
        replace hkd := hkd.trans hkx.out
        replace hrd := hrx.out
        have hSn := (hcap.out _ hkd).2
        refine hK _ _ hSn ?_
        clear hK K hcl hkx hrx
        try simp only [List.getElem_toArray, List.getElem_cons_succ, List.getElem_cons_zero, Act.put, List.setIfInBounds_toArray, List.set_cons_zero, List.set_cons_succ]
        refine Hd.one (i := 5) rfl (by kernel_rfl) (fun K hK => ?_)
        go_simp
        have hcl := numR_any s hs Rb (o2) w2a hrd
        rw [show rNum M64 o2 = (n2, o3) from he2.out] at hcl
        dsimp only at hcl
        refine hcl.mono ?_
        rintro e w3a ⟨rfl, hkx, hrx⟩
        dsimp only
        replace hT := hkx.out.heap hT (by omega)
        replace hkd := hkd.trans hkx.out
        replace hrd := hrx.out
        have hSn := (hcap.out _ hkd).2
        refine hK _ _ hSn ?_
        clear hK K hcl hkx hrx
        try simp only [List.getElem_toArray, List.getElem_cons_succ, List.getElem_cons_zero, Act.put, List.setIfInBounds_toArray, List.set_cons_zero, List.set_cons_succ]
        refine Hd.one (i := 7) rfl (by kernel_rfl) (fun K hK => ?_)
        go_simp
        have hcl := numR_any s hs Rb (o3) w3a hrd
        rw [show rNum M64 o3 = (n3, o4) from he3.out] at hcl
        dsimp only at hcl
        refine hcl.mono ?_
        rintro e w4a ⟨rfl, hkx, hrx⟩
        dsimp only
        replace hT := hkx.out.heap hT (by omega)
        replace hkd := hkd.trans hkx.out
        replace hrd := hrx.out
        have hSn := (hcap.out _ hkd).2
        refine hK _ _ hSn ?_
        clear hK K hcl hkx hrx
        try simp only [List.getElem_toArray, List.getElem_cons_succ, List.getElem_cons_zero, Act.put, List.setIfInBounds_toArray, List.set_cons_zero, List.set_cons_succ]
        refine Hd.take (i := 8) (v := ?tv17) hok rfl (by kernel_rfl) (fun _ _ _ h => h) (Or.inl ⟨by rfl, ?ty17⟩) (by assumption) ?tr17
        case ty17 => (intro w hSw; (try dsimp only at hSw); go_simp; (try with_reducible rfl))
        try simp only [List.getElem_toArray, List.getElem_cons_succ, List.getElem_cons_zero, Act.put, List.setIfInBounds_toArray, List.set_cons_zero, List.set_cons_succ]
        refine Hd.done (by kernel_rfl) ?_
        simp only [List.drop_succ_cons, List.drop_zero]
        have z0 := box_cell hT 0
        have z1 := box_cell hT 1
        have z2 := box_cell hT 2
        have z3 := box_cell hT 3
        have z4 := box_cell hT 4
        simp at z0 z1 z2 z3 z4
        have f0 := box_free hT 0
        have f1 := box_free hT 1
        have f2 := box_free hT 2
        have f3 := box_free hT 3
        have f4 := box_free hT 4
        have hTn : ((((((w4a.setCell ⟨T2, 0, none⟩ (.string (mkB t0))).setCell ⟨T2, 1, none⟩ (.int .u64 n1)).setCell ⟨T2, 2, none⟩ (.int .u64 n2)).setCell ⟨T2, 3, none⟩ (.int .u64 n3)).setCell ⟨T2, 4, none⟩ (.slice none 0 0)).heap[T2]? = some (.cells #[.string (mkB t0), .int .u64 n1, .int .u64 n2, .int .u64 n3, .slice none 0 0] 40 (0, 0))) := cells_set (C := [.string (mkB t0), .int .u64 n1, .int .u64 n2, .int .u64 n3, _]) (cells_set (C := [.string (mkB t0), .int .u64 n1, .int .u64 n2, _, _]) (cells_set (C := [.string (mkB t0), .int .u64 n1, _, _, _]) (cells_set (C := [.string (mkB t0), _, _, _, _]) (cells_set (C := [_, _, _, _, _]) hT 0 _) 1 _) 2 _) 3 _) 4 _
        have hkn := Lib.hid (((((hkd.setNew hTs 0 (.string (mkB t0))).setNew hTs 1 (.int .u64 n1)).setNew hTs 2 (.int .u64 n2)).setNew hTs 3 (.int .u64 n3)).setNew hTs 4 (.slice none 0 0))
        have hrn := Lib.hid (((((hrd.setOther (Nat.ne_of_lt hTR) 0 (.string (mkB t0))).setOther (Nat.ne_of_lt hTR) 1 (.int .u64 n1)).setOther (Nat.ne_of_lt hTR) 2 (.int .u64 n2)).setOther (Nat.ne_of_lt hTR) 3 (.int .u64 n3)).setOther (Nat.ne_of_lt hTR) 4 (.slice none 0 0))
        replace hTn := Lib.hid (And.intro hTs hTn)
        clear hok hS0 hSn hkd hrd hT
        go_wp2_with fail
        go_meet
        case rel => exact ⟨T2, rfl, hTn, hkn, hrn⟩
    · go_simp
      have hb9 := (Below.refl wd.heap.size wd).alloc (Nat.le_refl _) (.cells #[.string ⟨#[]⟩, .int .u64 0, .int .u64 0, .int .u64 0, .slice none 0 0] 40)
      have hT := heap_newI wd (.cells #[.string ⟨#[]⟩, .int .u64 0, .int .u64 0, .int .u64 0, .slice none 0 0] 40)
      have hTs : wa.heap.size ≤ wd.heap.size := hkd.size
      have hTR : Rb < wd.heap.size := hrd.lt
      generalize hTe : wd.heap.size = T2 at hT hTs hTR hb9
      replace hkd := hkd.on (by rw [hTe]; exact hb9)
      replace hrd := hrd.on (by rw [hTe]; exact hb9)
      generalize wd.alloc (.cells #[.string ⟨#[]⟩, .int .u64 0, .int .u64 0, .int .u64 0, .slice none 0 0] 40) = wdb at hT hkd hrd ⊢
      clear hb9 hTe
      have hSn := (hcap.out _ hkd).2
      refine hK _ _ hSn ?_
      clear hK K
      try simp only [List.getElem_toArray, List.getElem_cons_succ, List.getElem_cons_zero, Act.put, List.setIfInBounds_toArray, List.set_cons_zero, List.set_cons_succ]
      refine Hd.one (i := 1) rfl (by kernel_rfl) (fun K hK => ?_)
      go_simp
      have hcl := textR_any s hs Rb (o0) 64 (by decide) wdb hrd
      rw [show rText 64 o0 = (t0, o1) from he0.out] at hcl
      dsimp only at hcl
      refine hcl.mono ?_
      rintro e w1a ⟨uu, rfl, hu, hkx, hrx⟩
      obtain rfl : uu = mkB t0 := str_mkI hu.out
      clear hu
      dsimp only
      replace hT := hkx.out.heap hT (by omega)
      replace hkd := hkd.trans hkx.out
      replace hrd := hrx.out
      have hSn := (hcap.out _ hkd).2
      refine hK _ _ hSn ?_
      clear hK K hcl hkx hrx
      try simp only [List.getElem_toArray, List.getElem_cons_succ, List.getElem_cons_zero, Act.put, List.setIfInBounds_toArray, List.set_cons_zero, List.set_cons_succ]
      refine Hd.one (i := 3) rfl (by kernel_rfl) (fun K hK => ?_)
      go_simp
      have hcl := numR_any s hs Rb (o1) w1a hrd
      rw [show rNum M64 o1 = (n1, o2) from he1.out] at hcl
      dsimp only at hcl
      refine hcl.mono ?_
      rintro e w2a ⟨rfl, hkx, hrx⟩
      dsimp only
      replace hT := hkx.out.heap hT (by omega)
      replace hkd := hkd.trans hkx.out
      replace hrd := hrx.out
      have hSn := (hcap.out _ hkd).2
      refine hK _ _ hSn ?_
      clear hK K hcl hkx hrx
      try simp only [List.getElem_toArray, List.getElem_cons_succ, List.getElem_cons_zero, Act.put, List.setIfInBounds_toArray, List.set_cons_zero, List.set_cons_succ]
      refine Hd.one (i := 5) rfl (by kernel_rfl) (fun K hK => ?_)
      go_simp
      have hcl := numR_any s hs Rb (o2) w2a hrd
      rw [show rNum M64 o2 = (n2, o3) from he2.out] at hcl
      dsimp only at hcl
      refine hcl.mono ?_
      rintro e w3a ⟨rfl, hkx, hrx⟩
      dsimp only
      replace hT := hkx.out.heap hT (by omega)
      replace hkd := hkd.trans hkx.out
      replace hrd := hrx.out
      have hSn := (hcap.out _ hkd).2
      refine hK _ _ hSn ?_
      clear hK K hcl hkx hrx
      try simp only [List.getElem_toArray, List.getElem_cons_succ, List.getElem_cons_zero, Act.put, List.setIfInBounds_toArray, List.set_cons_zero, List.set_cons_succ]
      refine Hd.one (i := 7) rfl (by kernel_rfl) (fun K hK => ?_)
      go_simp
      have hcl := numR_any s hs Rb (o3) w3a hrd
      rw [show rNum M64 o3 = (n3, o4) from he3.out] at hcl
      dsimp only at hcl
      refine hcl.mono ?_
      rintro e w4a ⟨rfl, hkx, hrx⟩
      dsimp only
      replace hT := hkx.out.heap hT (by omega)
      replace hkd := hkd.trans hkx.out
      replace hrd := hrx.out
      have hSn := (hcap.out _ hkd).2
      refine hK _ _ hSn ?_
      clear hK K hcl hkx hrx
      try simp only [List.getElem_toArray, List.getElem_cons_succ, List.getElem_cons_zero, Act.put, List.setIfInBounds_toArray, List.set_cons_zero, List.set_cons_succ]
      refine Hd.take (i := 8) (v := ?tv18) hok rfl (by kernel_rfl) (fun _ _ _ h => h) (Or.inl ⟨by rfl, ?ty18⟩) (by assumption) ?tr18
      case ty18 => (intro w hSw; (try dsimp only at hSw); go_simp; (try with_reducible rfl))
      try simp only [List.getElem_toArray, List.getElem_cons_succ, List.getElem_cons_zero, Act.put, List.setIfInBounds_toArray, List.set_cons_zero, List.set_cons_succ]
      refine Hd.done (by kernel_rfl) ?_
      simp only [List.drop_succ_cons, List.drop_zero]
      have z0 := box_cell hT 0
      have z1 := box_cell hT 1
      have z2 := box_cell hT 2
      have z3 := box_cell hT 3
      have z4 := box_cell hT 4
      simp at z0 z1 z2 z3 z4
      have f0 := box_free hT 0
      have f1 := box_free hT 1
      have f2 := box_free hT 2
      have f3 := box_free hT 3
      have f4 := box_free hT 4
      have hTn : ((((((w4a.setCell ⟨T2, 0, none⟩ (.string (mkB t0))).setCell ⟨T2, 1, none⟩ (.int .u64 n1)).setCell ⟨T2, 2, none⟩ (.int .u64 n2)).setCell ⟨T2, 3, none⟩ (.int .u64 n3)).setCell ⟨T2, 4, none⟩ (.slice none 0 0)).heap[T2]? = some (.cells #[.string (mkB t0), .int .u64 n1, .int .u64 n2, .int .u64 n3, .slice none 0 0] 40 (0, 0))) := cells_set (C := [.string (mkB t0), .int .u64 n1, .int .u64 n2, .int .u64 n3, _]) (cells_set (C := [.string (mkB t0), .int .u64 n1, .int .u64 n2, _, _]) (cells_set (C := [.string (mkB t0), .int .u64 n1, _, _, _]) (cells_set (C := [.string (mkB t0), _, _, _, _]) (cells_set (C := [_, _, _, _, _]) hT 0 _) 1 _) 2 _) 3 _) 4 _
      have hkn := Lib.hid (((((hkd.setNew hTs 0 (.string (mkB t0))).setNew hTs 1 (.int .u64 n1)).setNew hTs 2 (.int .u64 n2)).setNew hTs 3 (.int .u64 n3)).setNew hTs 4 (.slice none 0 0))
      have hrn := Lib.hid (((((hrd.setOther (Nat.ne_of_lt hTR) 0 (.string (mkB t0))).setOther (Nat.ne_of_lt hTR) 1 (.int .u64 n1)).setOther (Nat.ne_of_lt hTR) 2 (.int .u64 n2)).setOther (Nat.ne_of_lt hTR) 3 (.int .u64 n3)).setOther (Nat.ne_of_lt hTR) 4 (.slice none 0 0))
      replace hTn := Lib.hid (And.intro hTs hTn)
      clear hok hS0 hSn hkd hrd hT
      go_wp2_with fail
      go_meet
      case rel => exact ⟨T2, rfl, hTn, hkn, hrn⟩
  case rest =>
  obtain ⟨T2, rfl, hT, hkx, hrx⟩ := hcut
  generalize wc = wx at *
  obtain ⟨hRCx, c0⟩ := hcap.out wx hkx.out
  obtain ⟨hLCx, c1⟩ := hlc.out wx hkx.out
  have hrcall := Lib.hid (read_letters_any Rb RC s hs letterR 32 (by decide) o4 wx hrx.out (fun w2 p hk2 hr2 => clLetter_any RC Rb s hs w2 p (hk2.heap hRCx hne) hne hr2))
  have hTl := lt_of_heap hT.out.2
  have hB1n : B1 ≠ Rb := by omega
  have hBx := hkx.out.heap hB1.out hB1n
  have hB1x := lt_of_heap hBx
  have hT2R : T2 ≠ Rb := by have := hT.out.1; omega
  have hT2B : T2 ≠ B1 := by have := hT.out.1; omega
  clear hcap hlc
  go_wp2_with fail
  refine hrcall.out.mono ?_
  rintro e w5 ⟨v5, rows, rfl, hmp, hk5, hr5, hst5⟩
  obtain ⟨ao, cap, hv5, -⟩ := hst5.out.now.1
  subst hv5
  have hT5 := hk5.out.heap hT.out.2 hT2R
  have hB5 := hk5.out.heap hBx hB1n
  have t0f := box_cell hT5 4
  simp at t0f
  have f0 := box_free hT5 4
  have hT6 : (w5.setCell ⟨T2, 4, none⟩ (.slice ao rows.length cap)).heap[T2]? = some (.cells #[.string (mkB t0), .int .u64 n1, .int .u64 n2, .int .u64 n3, .slice ao rows.length cap] 40 (0, 0)) := cells_set (C := [.string (mkB t0), .int .u64 n1, .int .u64 n2, .int .u64 n3, .slice none 0 0]) hT5 4 _
  have hB6 := heap_otherI hB5 (Ne.symm hT2B) 4 (.slice ao rows.length cap)
  have hk6 := ((hkx.out.trans hk5.out).setNew hT.out.1 4 (.slice ao rows.length cap))
  have hr6 := hr5.out.setOther (Ne.symm hT2R) 4 (.slice ao rows.length cap)
  have hst6 := hst5.out.setLow hTl 4 (.slice ao rows.length cap)
  clear hrcall hT5 hB5 c0 c1
  go_upto_region 3 with fail
  clear t0f f0
  generalize w5.setCell ⟨T2, 4, none⟩ (.slice ao rows.length cap) = w6 at hT6 hB6 hk6 hr6 hst6 ⊢
  have y0 := box_cell hT6 0
  have y1 := box_cell hT6 1
  have y2 := box_cell hT6 2
  have y3 := box_cell hT6 3
  have y4 := box_cell hT6 4
  simp at y0 y1 y2 y3 y4
  have z0 := box_cell hB6 0
  have z1 := box_cell hB6 1
  have z2 := box_cell hB6 2
  have z3 := box_cell hB6 3
  have z4 := box_cell hB6 4
  simp at z0 z1 z2 z3 z4
  have g0 := box_free hB6 0
  have g1 := box_free hB6 1
  have g2 := box_free hB6 2
  have g3 := box_free hB6 3
  have g4 := box_free hB6 4
  have hB7 : ((((((w6.setCell ⟨B1, 0, none⟩ (.string (mkB t0))).setCell ⟨B1, 1, none⟩ (.int .u64 n1)).setCell ⟨B1, 2, none⟩ (.int .u64 n2)).setCell ⟨B1, 3, none⟩ (.int .u64 n3)).setCell ⟨B1, 4, none⟩ (.slice ao rows.length cap)).heap[B1]? = some (.cells #[.string (mkB t0), .int .u64 n1, .int .u64 n2, .int .u64 n3, .slice ao rows.length cap] 40 (0, 0))) := cells_set (C := [.string (mkB t0), .int .u64 n1, .int .u64 n2, .int .u64 n3, _]) (cells_set (C := [.string (mkB t0), .int .u64 n1, .int .u64 n2, _, _]) (cells_set (C := [.string (mkB t0), .int .u64 n1, _, _, _]) (cells_set (C := [.string (mkB t0), _, _, _, _]) (cells_set (C := [_, _, _, _, _]) hB6 0 _) 1 _) 2 _) 3 _) 4 _
  have hBs : w.heap.size ≤ B1 := Nat.le_of_eq hB1e
  have hk7 := ((((((hk0.out.trans hk6).setNew hBs 0 (.string (mkB t0))).setNew hBs 1 (.int .u64 n1)).setNew hBs 2 (.int .u64 n2)).setNew hBs 3 (.int .u64 n3)).setNew hBs 4 (.slice ao rows.length cap))
  have hRB : Rb ≠ B1 := Ne.symm hB1n
  have hr7 := (((((hr6.setOther hRB 0 (.string (mkB t0))).setOther hRB 1 (.int .u64 n1)).setOther hRB 2 (.int .u64 n2)).setOther hRB 3 (.int .u64 n3)).setOther hRB 4 (.slice ao rows.length cap))
  have hst7 := (((((hst6.setLow hB1x 0 (.string (mkB t0))).setLow hB1x 1 (.int .u64 n1)).setLow hB1x 2 (.int .u64 n2)).setLow hB1x 3 (.int .u64 n3)).setLow hB1x 4 (.slice ao rows.length cap))
  replace hB7 := Lib.hid hB7
  replace hk7 := Lib.hid hk7
  replace hr5 := Lib.hid hr7
  replace hst5 := Lib.hid hst7
  have hsz5 : Hid (w.heap.size ≤ wx.heap.size) := Lib.hid (hk0.out.trans hkx.out).size
  clear hT6 hB6 hk6 hr6 hst6 hr7 hst7 hT hkx hrx hBx hk5 hk0 hB1
  go_wp2_with fail
  refine bodyPost_ret (results_cell_rowI rfl _ _ B1 [.string (mkB t0), .int .u64 n1, .int .u64 n2, .int .u64 n3, .slice ao rows.length cap] rfl hB7.out Tryz.isAgg40 Tryz.sizeOf40) rfl ?_
  refine ⟨⟨mkB t0, n1, n2, n3, rows, ao, cap⟩, rfl, Lib.hid (by
      show (⟨mkB t0, n1, n2, n3, rows.map LtV.x⟩ : Bx) = (boxR o0).1
      have h1 := hmp.out
      unfold boxR
      simp only [he0.out, he1.out, he2.out, he3.out]
      rw [h1]), hk7, Lib.hid (by
      have h1 := hr5.out
      have h2 : (boxR o0).2 = (rList 32 letterR o4).2 := by
        unfold boxR
        simp only [he0.out, he1.out, he2.out, he3.out]
      rw [h2]; exact h1), Lib.hid ?_⟩
  exact ((hst5.out.mono (fun W h => ⟨h.1, h.2⟩))).weak (fun k _ hk => Nat.le_trans hsz5.out hk)
set_option maxRecDepth 100000 in
set_option maxHeartbeats 16000000 in
theorem clHome_any (RC Rb : Nat) (s : ByteArray) (hs : s.size ≤ 1000000000000) (w : World) (o0 : PS) (hRC : w.heap[RC]? = some (.cells (capC Rb) 57 (0, 0))) (hne : RC ≠ Rb) (hr : RdrAt w Rb s o0) :
    Calls Tryz.prog 31 #[.pointer (some ⟨RC, 0, none⟩)] w (OneRet (α := Hm) (fun y => .agg #[.int .i64 y.node, .int .u64 y.life, .int .u64 y.try_]) (fun y => y) (fun _ _ => True) Rb s (homeR o0) w) := by
  obtain ⟨⟨n0, o1⟩, he0⟩ : ∃ p, rNum 5 o0 = p := ⟨_, rfl⟩
  obtain ⟨⟨n1, o2⟩, he1⟩ : ∃ p, rNum M64 o1 = p := ⟨_, rfl⟩
  obtain ⟨⟨n2, o3⟩, he2⟩ : ∃ p, rNum M64 o2 = p := ⟨_, rfl⟩
  replace he0 := Lib.hid he0
  replace he1 := Lib.hid he1
  replace he2 := Lib.hid he2
  have hRl := hr.lt
  have hRCl := lt_of_heap hRC
  have hk0 : Kp Rb w (w.alloc (.cells #[.int .i64 0, .int .u64 0, .int .u64 0] 51)) := (Kp.refl Rb w).on ((Below.refl _ w).alloc (Nat.le_refl _) _)
  have hr0 := hr.on ((Below.refl _ w).alloc (Nat.le_refl _) (.cells #[.int .i64 0, .int .u64 0, .int .u64 0] 51))
  have hB1 := heap_newI w (.cells #[.int .i64 0, .int .u64 0, .int .u64 0] 51)
  have hRC0 := hk0.heap hRC hne
  have hB1e : w.heap.size ≤ w.heap.size := Nat.le_refl _
  generalize hBe : w.heap.size = B1 at hB1 hRl hRCl
  rw [hBe] at hB1e
  generalize hWa : w.alloc (.cells #[.int .i64 0, .int .u64 0, .int .u64 0] 51) = wa at hk0 hr0 hB1 hRC0
  have hkd := (Kp.refl Rb wa).on ((Below.refl wa.heap.size wa).drew)
  have hrd := hr0.on ((Below.refl wa.heap.size wa).drew)
  have hcap := Lib.hid (fun (w' : World) (h : Kp Rb wa w') => box_cell (h.heap hRC0 hne) 0)
  have hS00 : wa.drew.cell? ⟨RC, 0, none⟩ = some (.pointer (some ⟨Rb, 0, none⟩)) := hcap.out _ hkd
  have hBs : w.heap.size ≤ B1 := Nat.le_of_eq hBe
  have hB1n : B1 ≠ Rb := by omega
  replace hk0 := Lib.hid hk0
  replace hB1 := Lib.hid hB1
  clear hr hRC hr0 hRC0
  go_enter Tryz.func31, Tryz.ntmps31
  go_upto_region 1 with fail
  clear hWa
  refine wp_region_hd (fun w' => w'.cell? ⟨RC, 0, none⟩ = some (.pointer (some ⟨Rb, 0, none⟩))) 7 1 (by kernel_rfl) rfl ⟨by kernel_rfl, by kernel_rfl, by kernel_rfl, by decide⟩ hS00 (fun hok hS0 => ?_)
  generalize wa.drew = wd at *
  refine Hd.take (i := 0) (v := ?tv19) hok rfl (by kernel_rfl) (fun _ _ _ h => h) (Or.inl ⟨by rfl, ?ty19⟩) (by assumption) ?tr19
  case ty19 => (intro w hSw; (try dsimp only at hSw); go_simp; (try with_reducible rfl))
  try simp only [List.getElem_toArray, List.getElem_cons_succ, List.getElem_cons_zero, Act.put, List.setIfInBounds_toArray, List.set_cons_zero, List.set_cons_succ]
  refine Hd.take (i := 2) (v := ?tv20) hok rfl (by kernel_rfl) (fun _ _ _ h => h) (Or.inl ⟨by rfl, ?ty20⟩) (by assumption) ?tr20
  case ty20 => (intro w hSw; (try dsimp only at hSw); go_simp; (try with_reducible rfl))
  try simp only [List.getElem_toArray, List.getElem_cons_succ, List.getElem_cons_zero, Act.put, List.setIfInBounds_toArray, List.set_cons_zero, List.set_cons_succ]
  refine Hd.take (i := 4) (v := ?tv21) hok rfl (by kernel_rfl) (fun _ _ _ h => h) (Or.inl ⟨by rfl, ?ty21⟩) (by assumption) ?tr21
  case ty21 => (intro w hSw; (try dsimp only at hSw); go_simp; (try with_reducible rfl))
  try simp only [List.getElem_toArray, List.getElem_cons_succ, List.getElem_cons_zero, Act.put, List.setIfInBounds_toArray, List.set_cons_zero, List.set_cons_succ]
  refine Hd.one (i := 1) rfl (by kernel_rfl) (fun K hK => ?_)
  go_simp
  have hcl := countR_any s hs Rb o0 5 (by decide) wd hrd
  rw [show rNum 5 o0 = (n0, o1) from he0.out] at hcl
  dsimp only at hcl
  refine hcl.mono ?_
  rintro e w1 ⟨rfl, hkx, hrx⟩
  dsimp only
  replace hkd := hkd.trans hkx.out
  replace hrd := hrx.out
  have hSn : w1.cell? ⟨RC, 0, none⟩ = some (.pointer (some ⟨Rb, 0, none⟩)) := hcap.out _ hkd
  refine hK _ _ hSn ?_
  clear hK K hcl hkx hrx
  try simp only [List.getElem_toArray, List.getElem_cons_succ, List.getElem_cons_zero, Act.put, List.setIfInBounds_toArray, List.set_cons_zero, List.set_cons_succ]
  refine Hd.one (i := 3) rfl (by kernel_rfl) (fun K hK => ?_)
  go_simp
  have hcl := numR_any s hs Rb o1 w1 hrd
  rw [show rNum M64 o1 = (n1, o2) from he1.out] at hcl
  dsimp only at hcl
  refine hcl.mono ?_
  rintro e w2 ⟨rfl, hkx, hrx⟩
  dsimp only
  replace hkd := hkd.trans hkx.out
  replace hrd := hrx.out
  have hSn : w2.cell? ⟨RC, 0, none⟩ = some (.pointer (some ⟨Rb, 0, none⟩)) := hcap.out _ hkd
  refine hK _ _ hSn ?_
  clear hK K hcl hkx hrx
  try simp only [List.getElem_toArray, List.getElem_cons_succ, List.getElem_cons_zero, Act.put, List.setIfInBounds_toArray, List.set_cons_zero, List.set_cons_succ]
  refine Hd.one (i := 5) rfl (by kernel_rfl) (fun K hK => ?_)
  go_simp
  have hcl := numR_any s hs Rb o2 w2 hrd
  rw [show rNum M64 o2 = (n2, o3) from he2.out] at hcl
  dsimp only at hcl
  refine hcl.mono ?_
  rintro e w3 ⟨rfl, hkx, hrx⟩
  dsimp only
  replace hkd := hkd.trans hkx.out
  replace hrd := hrx.out
  have hSn : w3.cell? ⟨RC, 0, none⟩ = some (.pointer (some ⟨Rb, 0, none⟩)) := hcap.out _ hkd
  refine hK _ _ hSn ?_
  clear hK K hcl hkx hrx
  try simp only [List.getElem_toArray, List.getElem_cons_succ, List.getElem_cons_zero, Act.put, List.setIfInBounds_toArray, List.set_cons_zero, List.set_cons_succ]
  refine Hd.take (i := 6) (v := ?tv22) hok rfl (by kernel_rfl) (fun _ _ _ h => h) (Or.inl ⟨by rfl, ?ty22⟩) (by assumption) ?tr22
  case ty22 => (intro w hSw; (try dsimp only at hSw); go_simp; (try with_reducible rfl))
  try simp only [List.getElem_toArray, List.getElem_cons_succ, List.getElem_cons_zero, Act.put, List.setIfInBounds_toArray, List.set_cons_zero, List.set_cons_succ]
  refine Hd.done (by kernel_rfl) ?_
  simp only [List.drop_succ_cons, List.drop_zero]
  have hT := hkd.heap hB1.out hB1n
  have z0 := box_cell hT 0
  have z1 := box_cell hT 1
  have z2 := box_cell hT 2
  simp at z0 z1 z2
  have f0 := box_free hT 0
  have f1 := box_free hT 1
  have f2 := box_free hT 2
  have hTn : (((w3.setCell ⟨B1, 0, none⟩ (.int .i64 (n0 : Int))).setCell ⟨B1, 1, none⟩ (.int .u64 n1)).setCell ⟨B1, 2, none⟩ (.int .u64 n2)).heap[B1]? = some (.cells #[.int .i64 (n0 : Int), .int .u64 n1, .int .u64 n2] 51 (0, 0)) := cells_set (C := [.int .i64 (n0 : Int), .int .u64 n1, _]) (cells_set (C := [.int .i64 (n0 : Int), _, _]) (cells_set (C := [_, _, _]) hT 0 _) 1 _) 2 _
  have hkn := Lib.hid ((((hk0.out.trans hkd).setNew hBs 0 (.int .i64 (n0 : Int))).setNew hBs 1 (.int .u64 n1)).setNew hBs 2 (.int .u64 n2))
  have hrn := Lib.hid (((hrd.setOther (Ne.symm hB1n) 0 (.int .i64 (n0 : Int))).setOther (Ne.symm hB1n) 1 (.int .u64 n1)).setOther (Ne.symm hB1n) 2 (.int .u64 n2))
  replace hTn := Lib.hid hTn
  have hmod : Hid ((homeR o0) = ((⟨(n0 : Int), n1, n2⟩ : Hm), o3)) := Lib.hid (by
    unfold homeR
    simp only [he0.out, he1.out, he2.out])
  clear hok hS0 hSn hkd hrd hT
  go_wp2_with fail
  refine bodyPost_ret (results_cell_rowI rfl _ _ B1 [.int .i64 (n0 : Int), .int .u64 n1, .int .u64 n2] rfl hTn.out Tryz.isAgg51 Tryz.sizeOf51) rfl ?_
  rw [hmod.out]
  exact ⟨(⟨(n0 : Int), n1, n2⟩ : Hm), rfl, Lib.hid rfl, hkn, hrn, Lib.hid (fun _ _ => trivial)⟩
set_option maxRecDepth 100000 in
set_option maxHeartbeats 16000000 in
theorem clSeat_any (RC Rb : Nat) (s : ByteArray) (hs : s.size ≤ 1000000000000) (w : World) (o0 : PS) (hRC : w.heap[RC]? = some (.cells (capC Rb) 57 (0, 0))) (hne : RC ≠ Rb) (hr : RdrAt w Rb s o0) :
    Calls Tryz.prog 34 #[.pointer (some ⟨RC, 0, none⟩)] w (OneRet (α := St) (fun y => .agg #[.int .u64 y.session, .int .u64 y.last, .int .i64 y.node, .int .u64 y.life, .int .u64 y.try_]) (fun y => y) (fun _ _ => True) Rb s (seatR o0) w) := by
  obtain ⟨⟨n0, o1⟩, he0⟩ : ∃ p, rNum M64 o0 = p := ⟨_, rfl⟩
  obtain ⟨⟨n1, o2⟩, he1⟩ : ∃ p, rNum M64 o1 = p := ⟨_, rfl⟩
  obtain ⟨⟨n2, o3⟩, he2⟩ : ∃ p, rNum 5 o2 = p := ⟨_, rfl⟩
  obtain ⟨⟨n3, o4⟩, he3⟩ : ∃ p, rNum M64 o3 = p := ⟨_, rfl⟩
  obtain ⟨⟨n4, o5⟩, he4⟩ : ∃ p, rNum M64 o4 = p := ⟨_, rfl⟩
  replace he0 := Lib.hid he0
  replace he1 := Lib.hid he1
  replace he2 := Lib.hid he2
  replace he3 := Lib.hid he3
  replace he4 := Lib.hid he4
  have hRl := hr.lt
  have hRCl := lt_of_heap hRC
  have hk0 : Kp Rb w (w.alloc (.cells #[.int .u64 0, .int .u64 0, .int .i64 0, .int .u64 0, .int .u64 0] 55)) := (Kp.refl Rb w).on ((Below.refl _ w).alloc (Nat.le_refl _) _)
  have hr0 := hr.on ((Below.refl _ w).alloc (Nat.le_refl _) (.cells #[.int .u64 0, .int .u64 0, .int .i64 0, .int .u64 0, .int .u64 0] 55))
  have hB1 := heap_newI w (.cells #[.int .u64 0, .int .u64 0, .int .i64 0, .int .u64 0, .int .u64 0] 55)
  have hRC0 := hk0.heap hRC hne
  have hB1e : w.heap.size ≤ w.heap.size := Nat.le_refl _
  generalize hBe : w.heap.size = B1 at hB1 hRl hRCl
  rw [hBe] at hB1e
  generalize hWa : w.alloc (.cells #[.int .u64 0, .int .u64 0, .int .i64 0, .int .u64 0, .int .u64 0] 55) = wa at hk0 hr0 hB1 hRC0
  have hkd := (Kp.refl Rb wa).on ((Below.refl wa.heap.size wa).drew)
  have hrd := hr0.on ((Below.refl wa.heap.size wa).drew)
  have hcap := Lib.hid (fun (w' : World) (h : Kp Rb wa w') => box_cell (h.heap hRC0 hne) 0)
  have hS00 : wa.drew.cell? ⟨RC, 0, none⟩ = some (.pointer (some ⟨Rb, 0, none⟩)) := hcap.out _ hkd
  have hBs : w.heap.size ≤ B1 := Nat.le_of_eq hBe
  have hB1n : B1 ≠ Rb := by omega
  replace hk0 := Lib.hid hk0
  replace hB1 := Lib.hid hB1
  clear hr hRC hr0 hRC0
  go_enter Tryz.func34, Tryz.ntmps34
  go_upto_region 1 with fail
  clear hWa
  refine wp_region_hd (fun w' => w'.cell? ⟨RC, 0, none⟩ = some (.pointer (some ⟨Rb, 0, none⟩))) 11 1 (by kernel_rfl) rfl ⟨by kernel_rfl, by kernel_rfl, by kernel_rfl, by decide⟩ hS00 (fun hok hS0 => ?_)
  generalize wa.drew = wd at *
  refine Hd.take (i := 0) (v := ?tv23) hok rfl (by kernel_rfl) (fun _ _ _ h => h) (Or.inl ⟨by rfl, ?ty23⟩) (by assumption) ?tr23
  case ty23 => (intro w hSw; (try dsimp only at hSw); go_simp; (try with_reducible rfl))
  try simp only [List.getElem_toArray, List.getElem_cons_succ, List.getElem_cons_zero, Act.put, List.setIfInBounds_toArray, List.set_cons_zero, List.set_cons_succ]
  refine Hd.take (i := 2) (v := ?tv24) hok rfl (by kernel_rfl) (fun _ _ _ h => h) (Or.inl ⟨by rfl, ?ty24⟩) (by assumption) ?tr24
  case ty24 => (intro w hSw; (try dsimp only at hSw); go_simp; (try with_reducible rfl))
  try simp only [List.getElem_toArray, List.getElem_cons_succ, List.getElem_cons_zero, Act.put, List.setIfInBounds_toArray, List.set_cons_zero, List.set_cons_succ]
  refine Hd.take (i := 4) (v := ?tv25) hok rfl (by kernel_rfl) (fun _ _ _ h => h) (Or.inl ⟨by rfl, ?ty25⟩) (by assumption) ?tr25
  case ty25 => (intro w hSw; (try dsimp only at hSw); go_simp; (try with_reducible rfl))
  try simp only [List.getElem_toArray, List.getElem_cons_succ, List.getElem_cons_zero, Act.put, List.setIfInBounds_toArray, List.set_cons_zero, List.set_cons_succ]
  refine Hd.take (i := 6) (v := ?tv26) hok rfl (by kernel_rfl) (fun _ _ _ h => h) (Or.inl ⟨by rfl, ?ty26⟩) (by assumption) ?tr26
  case ty26 => (intro w hSw; (try dsimp only at hSw); go_simp; (try with_reducible rfl))
  try simp only [List.getElem_toArray, List.getElem_cons_succ, List.getElem_cons_zero, Act.put, List.setIfInBounds_toArray, List.set_cons_zero, List.set_cons_succ]
  refine Hd.take (i := 8) (v := ?tv27) hok rfl (by kernel_rfl) (fun _ _ _ h => h) (Or.inl ⟨by rfl, ?ty27⟩) (by assumption) ?tr27
  case ty27 => (intro w hSw; (try dsimp only at hSw); go_simp; (try with_reducible rfl))
  try simp only [List.getElem_toArray, List.getElem_cons_succ, List.getElem_cons_zero, Act.put, List.setIfInBounds_toArray, List.set_cons_zero, List.set_cons_succ]
  refine Hd.one (i := 1) rfl (by kernel_rfl) (fun K hK => ?_)
  go_simp
  have hcl := numR_any s hs Rb o0 wd hrd
  rw [show rNum M64 o0 = (n0, o1) from he0.out] at hcl
  dsimp only at hcl
  refine hcl.mono ?_
  rintro e w1 ⟨rfl, hkx, hrx⟩
  dsimp only
  replace hkd := hkd.trans hkx.out
  replace hrd := hrx.out
  have hSn : w1.cell? ⟨RC, 0, none⟩ = some (.pointer (some ⟨Rb, 0, none⟩)) := hcap.out _ hkd
  refine hK _ _ hSn ?_
  clear hK K hcl hkx hrx
  try simp only [List.getElem_toArray, List.getElem_cons_succ, List.getElem_cons_zero, Act.put, List.setIfInBounds_toArray, List.set_cons_zero, List.set_cons_succ]
  refine Hd.one (i := 3) rfl (by kernel_rfl) (fun K hK => ?_)
  go_simp
  have hcl := numR_any s hs Rb o1 w1 hrd
  rw [show rNum M64 o1 = (n1, o2) from he1.out] at hcl
  dsimp only at hcl
  refine hcl.mono ?_
  rintro e w2 ⟨rfl, hkx, hrx⟩
  dsimp only
  replace hkd := hkd.trans hkx.out
  replace hrd := hrx.out
  have hSn : w2.cell? ⟨RC, 0, none⟩ = some (.pointer (some ⟨Rb, 0, none⟩)) := hcap.out _ hkd
  refine hK _ _ hSn ?_
  clear hK K hcl hkx hrx
  try simp only [List.getElem_toArray, List.getElem_cons_succ, List.getElem_cons_zero, Act.put, List.setIfInBounds_toArray, List.set_cons_zero, List.set_cons_succ]
  refine Hd.one (i := 5) rfl (by kernel_rfl) (fun K hK => ?_)
  go_simp
  have hcl := countR_any s hs Rb o2 5 (by decide) w2 hrd
  rw [show rNum 5 o2 = (n2, o3) from he2.out] at hcl
  dsimp only at hcl
  refine hcl.mono ?_
  rintro e w3 ⟨rfl, hkx, hrx⟩
  dsimp only
  replace hkd := hkd.trans hkx.out
  replace hrd := hrx.out
  have hSn : w3.cell? ⟨RC, 0, none⟩ = some (.pointer (some ⟨Rb, 0, none⟩)) := hcap.out _ hkd
  refine hK _ _ hSn ?_
  clear hK K hcl hkx hrx
  try simp only [List.getElem_toArray, List.getElem_cons_succ, List.getElem_cons_zero, Act.put, List.setIfInBounds_toArray, List.set_cons_zero, List.set_cons_succ]
  refine Hd.one (i := 7) rfl (by kernel_rfl) (fun K hK => ?_)
  go_simp
  have hcl := numR_any s hs Rb o3 w3 hrd
  rw [show rNum M64 o3 = (n3, o4) from he3.out] at hcl
  dsimp only at hcl
  refine hcl.mono ?_
  rintro e w4 ⟨rfl, hkx, hrx⟩
  dsimp only
  replace hkd := hkd.trans hkx.out
  replace hrd := hrx.out
  have hSn : w4.cell? ⟨RC, 0, none⟩ = some (.pointer (some ⟨Rb, 0, none⟩)) := hcap.out _ hkd
  refine hK _ _ hSn ?_
  clear hK K hcl hkx hrx
  try simp only [List.getElem_toArray, List.getElem_cons_succ, List.getElem_cons_zero, Act.put, List.setIfInBounds_toArray, List.set_cons_zero, List.set_cons_succ]
  refine Hd.one (i := 9) rfl (by kernel_rfl) (fun K hK => ?_)
  go_simp
  have hcl := numR_any s hs Rb o4 w4 hrd
  rw [show rNum M64 o4 = (n4, o5) from he4.out] at hcl
  dsimp only at hcl
  refine hcl.mono ?_
  rintro e w5 ⟨rfl, hkx, hrx⟩
  dsimp only
  replace hkd := hkd.trans hkx.out
  replace hrd := hrx.out
  have hSn : w5.cell? ⟨RC, 0, none⟩ = some (.pointer (some ⟨Rb, 0, none⟩)) := hcap.out _ hkd
  refine hK _ _ hSn ?_
  clear hK K hcl hkx hrx
  try simp only [List.getElem_toArray, List.getElem_cons_succ, List.getElem_cons_zero, Act.put, List.setIfInBounds_toArray, List.set_cons_zero, List.set_cons_succ]
  refine Hd.take (i := 10) (v := ?tv28) hok rfl (by kernel_rfl) (fun _ _ _ h => h) (Or.inl ⟨by rfl, ?ty28⟩) (by assumption) ?tr28
  case ty28 => (intro w hSw; (try dsimp only at hSw); go_simp; (try with_reducible rfl))
  try simp only [List.getElem_toArray, List.getElem_cons_succ, List.getElem_cons_zero, Act.put, List.setIfInBounds_toArray, List.set_cons_zero, List.set_cons_succ]
  refine Hd.done (by kernel_rfl) ?_
  simp only [List.drop_succ_cons, List.drop_zero]
  have hT := hkd.heap hB1.out hB1n
  have z0 := box_cell hT 0
  have z1 := box_cell hT 1
  have z2 := box_cell hT 2
  have z3 := box_cell hT 3
  have z4 := box_cell hT 4
  simp at z0 z1 z2 z3 z4
  have f0 := box_free hT 0
  have f1 := box_free hT 1
  have f2 := box_free hT 2
  have f3 := box_free hT 3
  have f4 := box_free hT 4
  have hTn : (((((w5.setCell ⟨B1, 0, none⟩ (.int .u64 n0)).setCell ⟨B1, 1, none⟩ (.int .u64 n1)).setCell ⟨B1, 2, none⟩ (.int .i64 (n2 : Int))).setCell ⟨B1, 3, none⟩ (.int .u64 n3)).setCell ⟨B1, 4, none⟩ (.int .u64 n4)).heap[B1]? = some (.cells #[.int .u64 n0, .int .u64 n1, .int .i64 (n2 : Int), .int .u64 n3, .int .u64 n4] 55 (0, 0)) := cells_set (C := [.int .u64 n0, .int .u64 n1, .int .i64 (n2 : Int), .int .u64 n3, _]) (cells_set (C := [.int .u64 n0, .int .u64 n1, .int .i64 (n2 : Int), _, _]) (cells_set (C := [.int .u64 n0, .int .u64 n1, _, _, _]) (cells_set (C := [.int .u64 n0, _, _, _, _]) (cells_set (C := [_, _, _, _, _]) hT 0 _) 1 _) 2 _) 3 _) 4 _
  have hkn := Lib.hid ((((((hk0.out.trans hkd).setNew hBs 0 (.int .u64 n0)).setNew hBs 1 (.int .u64 n1)).setNew hBs 2 (.int .i64 (n2 : Int))).setNew hBs 3 (.int .u64 n3)).setNew hBs 4 (.int .u64 n4))
  have hrn := Lib.hid (((((hrd.setOther (Ne.symm hB1n) 0 (.int .u64 n0)).setOther (Ne.symm hB1n) 1 (.int .u64 n1)).setOther (Ne.symm hB1n) 2 (.int .i64 (n2 : Int))).setOther (Ne.symm hB1n) 3 (.int .u64 n3)).setOther (Ne.symm hB1n) 4 (.int .u64 n4))
  replace hTn := Lib.hid hTn
  have hmod : Hid ((seatR o0) = ((⟨n0, n1, (n2 : Int), n3, n4⟩ : St), o5)) := Lib.hid (by
    unfold seatR
    simp only [he0.out, he1.out, he2.out, he3.out, he4.out])
  clear hok hS0 hSn hkd hrd hT
  go_wp2_with fail
  refine bodyPost_ret (results_cell_rowI rfl _ _ B1 [.int .u64 n0, .int .u64 n1, .int .i64 (n2 : Int), .int .u64 n3, .int .u64 n4] rfl hTn.out Tryz.isAgg55 Tryz.sizeOf55) rfl ?_
  rw [hmod.out]
  exact ⟨(⟨n0, n1, (n2 : Int), n3, n4⟩ : St), rfl, Lib.hid rfl, hkn, hrn, Lib.hid (fun _ _ => trivial)⟩
end Go.Proofs.YtpkaoiadjffjiaaGreat
