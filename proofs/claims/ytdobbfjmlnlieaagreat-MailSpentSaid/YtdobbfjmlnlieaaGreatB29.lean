/- ContainsFunc with the closure of mail's Right: walked. (written by tools/gen_MnI.py) mail's letterRight, asked about a letter that may be: walked. mail's boxRight, asked about a mailbox that may be: walked. (written by tools/gen_MnE.py) -/
import Derived.Test.YtdobbfjmlnlieaaGreatB19
import Derived.Laws.EntriesVeiled
import Derived.Test.YtdobbfjmlnlieaaGreatB22
namespace Go.Proofs.YtdobbfjmlnlieaaGreat
set_option linter.unusedSimpArgs false
open Go.RowKit

theorem twinOne_any (x : BxV) (va : Nat) (X : Nat) (W : World) (hX : W.cell? ⟨X, 1, none⟩ = some (.int .u64 va)) :
    Calls Tryz.prog 70 #[.agg #[.string x.name, .int .u64 x.validity, .int .u64 x.next, .int .u64 x.high, .slice x.a x.rows.length x.c], .pointer (some ⟨X, 0, none⟩)] W fun e w' => e = .returned (.bool (x.validity == va)) ∧ Hid (Below W.heap.size W w') := by
  have hXlt : X < W.heap.size := World.block_lt_of_cell? W ⟨X, 1, none⟩ hX
  have hXs : X ≠ W.heap.size := by omega
  go_enter Tryz.func70, Tryz.ntmps70
  go_wp2_with fail
  all_goals
    go_ret
    exact ⟨ret_bool (by first | rfl | (exact beq_cast _ _)), Lib.hid ((Below.refl _ W).alloc (Nat.le_refl _) _)⟩
set_option maxRecDepth 100000 in
set_option maxHeartbeats 4000000 in
theorem twinIdx_any (v : Value) (l : List BxV) (va : Nat) (X : Nat) (hlen : l.length ≤ 100000) (W : World) (ho : Rd W v l.length (bxT.cells l)) (hX : W.cell? ⟨X, 1, none⟩ = some (.int .u64 va)) :
    Calls Tryz.prog 104 #[v, .func (.func 70) #[] #[.pointer (some ⟨X, 0, none⟩)]] W fun e w' => ∃ r : Int, e = .returned (.int .i64 r) ∧ Hid (r = idxI (fun x => x.validity == va) l) ∧ Hid (Below W.heap.size W w') := by
  have hXlt : X < W.heap.size := World.block_lt_of_cell? W ⟨X, 1, none⟩ hX
  have hf := Lib.hid (fun x W2 (h : Below W.heap.size W W2) => twinOne_any x va X W2 ((h.cell (p := ⟨X, 1, none⟩) hXlt).trans hX))
  obtain ⟨ao, cap, hv, -⟩ := id ho
  subst hv
  replace ho := Lib.hid ho
  obtain ⟨p, hp⟩ : ∃ p : BxV → Bool, p = (fun x => x.validity == va) := ⟨_, rfl⟩
  rw [← hp]
  have hpx : Hid (∀ x, (x.validity == va) = p x) := Lib.hid (fun x => by rw [hp])
  clear hp hX hXlt
  go_enter Tryz.func104, Tryz.ntmps104
  go_wp2_with fail
  go_loopw [8] (fun v8 wr => ∃ i : Nat, v8 = .int .i64 i ∧ i ≤ l.length ∧ Hid (∀ k (_ : k < i) (h2 : k < l.length), p l[k] = false) ∧ Hid (Below W.heap.size W wr)) (fun v8 _ => l.length - (intOf v8).toNat)
  case atStart => exact ⟨0, rfl, Nat.zero_le _, Lib.hid (fun k hk => by omega), Lib.hid (Below.refl _ _)⟩
  case round =>
    obtain ⟨i, rfl, hi, hno, hb⟩ := hrel
    by_cases hlt : i < l.length
    · obtain ⟨b, o, cap', hv, -, hblt, hcells⟩ := bxT.rd_cells (ho.out.below hb.out) hlt
      injection hv with hv1 hv2 hv3
      subst hv1 hv3
      obtain ⟨x, hx⟩ : ∃ x, l[i] = x := ⟨_, rfl⟩
      have r0 : wr.cell? ⟨b, o + i * 5, none⟩ = some (.string x.name) := by have := hcells 0 _ (by rw [hx]; rfl); rwa [show o + (i * bxT.K + 0) = o + i * 5 from by simp only [bxT]; omega] at this
      have r1 : wr.cell? ⟨b, o + i * 5 + 1, none⟩ = some (.int .u64 x.validity) := by have := hcells 1 _ (by rw [hx]; rfl); rwa [show o + (i * bxT.K + 1) = o + i * 5 + 1 from by simp only [bxT]; omega] at this
      have r2 : wr.cell? ⟨b, o + i * 5 + 2, none⟩ = some (.int .u64 x.next) := by have := hcells 2 _ (by rw [hx]; rfl); rwa [show o + (i * bxT.K + 2) = o + i * 5 + 2 from by simp only [bxT]; omega] at this
      have r3 : wr.cell? ⟨b, o + i * 5 + 3, none⟩ = some (.int .u64 x.high) := by have := hcells 3 _ (by rw [hx]; rfl); rwa [show o + (i * bxT.K + 3) = o + i * 5 + 3 from by simp only [bxT]; omega] at this
      have r4 : wr.cell? ⟨b, o + i * 5 + 4, none⟩ = some (.slice x.a x.rows.length x.c) := by have := hcells 4 _ (by rw [hx]; rfl); rwa [show o + (i * bxT.K + 4) = o + i * 5 + 4 from by simp only [bxT]; omega] at this
      have hcall := hf.out x wr hb.out
      rw [hpx.out x] at hcall
      have hl1 : (i : Int) < (l.length : Int) := by omega
      cases hq : p x with
      | true =>
        have hfound := Lib.hid (idxI_some hlt (by rw [hx]; exact hq) (fun k hk => hno.out k hk (by omega)) : idxI p l = (i : Int))
        rw [hq] at hcall
        replace hcall := Lib.hid hcall
        replace hx := Lib.hid hx
        clear hcells hq hno
        go_wp2_with fail
        refine hcall.out.mono ?_
        rintro e w1 ⟨rfl, hb1⟩
        have hB := Lib.hid (hb.out.trans (hb1.out.mono hb.out.size))
        clear hcall hb1
        go_wp2_with fail
        go_ret
        exact ⟨_, rfl, Lib.hid hfound.out.symm, hB⟩
      | false =>
        have hno2 : Hid (∀ k (_ : k < i + 1) (h2 : k < l.length), p l[k] = false) := Lib.hid (fun k hk h2 => by
          by_cases e : k = i
          · subst e; rw [hx]; exact hq
          · exact hno.out k (by omega) h2)
        rw [hq] at hcall
        replace hcall := Lib.hid hcall
        replace hx := Lib.hid hx
        clear hcells hq hno
        go_wp2_with fail
        refine hcall.out.mono ?_
        rintro e w1 ⟨rfl, hb1⟩
        have hB := Lib.hid (hb.out.trans (hb1.out.mono hb.out.size))
        clear hcall hb1
        go_wp2_with fail
        go_roundw
        case rel => exact ⟨i + 1, by go_num, by omega, hno2, hB⟩
        case measure => simp [intOf] <;> omega
    · have hnone := Lib.hid (idxI_none (fun k hk => hno.out k (by omega) hk) : idxI p l = -1)
      have hl1 : (l.length : Int) ≤ (i : Int) := by omega
      go_wp2_with fail
      go_ret
      exact ⟨_, rfl, Lib.hid hnone.out.symm, hb⟩
theorem noTwin_any (v : Value) (l : List BxV) (va : Nat) (X : Nat) (hlen : l.length ≤ 100000) (W : World) (ho : Rd W v l.length (bxT.cells l)) (hX : W.cell? ⟨X, 1, none⟩ = some (.int .u64 va)) (hno : ∀ x ∈ l, x.validity ≠ va) :
    Calls Tryz.prog 69 #[v, .func (.func 70) #[] #[.pointer (some ⟨X, 0, none⟩)]] W fun e w' => e = .returned (.bool false) ∧ Hid (Below W.heap.size W w') := by
  have hidx := Lib.hid (twinIdx_any v l va X hlen W ho hX)
  have hnone := Lib.hid (idxI_none (p := fun x : BxV => x.validity == va) (l := l) (fun k hk => by have := hno _ (List.getElem_mem hk); simpa using this))
  obtain ⟨ao, cap, hv, -⟩ := ho
  subst hv
  clear hX hno
  go_enter Tryz.func69, Tryz.ntmps69
  go_wp2_with fail
  refine hidx.out.mono ?_
  rintro e w2 ⟨r, rfl, hr, hb2⟩
  obtain rfl : r = -1 := hr.out.trans hnone.out
  clear hidx hnone hr
  go_wp2_with fail
  go_ret
  exact ⟨rfl, hb2⟩
end Go.Proofs.YtdobbfjmlnlieaaGreat
namespace Go.Proofs.YtdobbfjmlnlieaaGreat
set_option linter.unusedSimpArgs false
open Go.RowKit
attribute [local go_sem ↓] Go.wp_at_zero Go.wp_at_succ

set_option maxRecDepth 100000 in
set_option maxHeartbeats 16000000 in
theorem letterRight_yes {W : World} (Z : LtV) (X : BxV) (hp : LetP Z.x X.b) (hf : FlIn W Z.v Z.x.flags) :
    Calls Tryz.prog 108 #[.agg #[.int .u64 Z.x.uid, .slice Z.a Z.x.flags.length Z.c, .int .u64 Z.x.mod, .string Z.x.hash, .int .u64 Z.x.size], .agg #[.string X.name, .int .u64 X.validity, .int .u64 X.next, .int .u64 X.high, .slice X.a X.rows.length X.c]] W fun e w' => e = .returned (.bool true) ∧ Hid (Below W.heap.size W w') := by
  obtain ⟨⟨uid, flags, mod, hash, size⟩, a, c⟩ := Z
  obtain ⟨nm, va, nx, hg, rows, xa, xc⟩ := X
  have p1 : (0 : Int) < (uid : Int) := by have := hp.u1; dsimp only at this; omega
  have p2 : (uid : Int) < (nx : Int) := by have := hp.u2; dsimp only [BxV.b] at this; omega
  have p3 : (0 : Int) < (mod : Int) := by have := hp.m1; dsimp only at this; omega
  have p4 : (mod : Int) ≤ (hg : Int) := by have := hp.m2; dsimp only [BxV.b] at this; omega
  have p5 : ((hash.size : Int) == 32) = true := by have h := hp.hs; dsimp only at h; rw [h]; rfl
  have p6 : (size : Int) ≤ 4096 := by have := hp.sz; dsimp only at this; omega
  have hfl : rightB flags = true := hp.fl
  have hz2 := ((Zoo.nil W).newBox [.int .u64 uid, .slice a flags.length c, .int .u64 mod, .string hash, .int .u64 size].toArray 50).newBox [.string nm, .int .u64 va, .int .u64 nx, .int .u64 hg, .slice xa rows.length xc].toArray 48
  have hf0 : ∀ w', Below W.heap.size W w' → FlIn w' (.slice a flags.length c) flags := fun w' h => hf.below h
  generalize hMB : W.heap.size = MB at hz2
  generalize hRB : (W.alloc (.cells [.int .u64 uid, .slice a flags.length c, .int .u64 mod, .string hash, .int .u64 size].toArray 50)).heap.size = RB at hz2
  generalize hWb : ((W.alloc (.cells [.int .u64 uid, .slice a flags.length c, .int .u64 mod, .string hash, .int .u64 size].toArray 50)).alloc (.cells [.string nm, .int .u64 va, .int .u64 nx, .int .u64 hg, .slice xa rows.length xc].toArray 48)) = Wb at hz2
  have hright : Hid (Calls Tryz.prog 87 #[.slice a flags.length c] Wb fun e w' => e = .returned (.bool true) ∧ Hid (Below Wb.heap.size Wb w')) := Lib.hid (by
    have h := right_any (.slice a flags.length c) flags Wb (hf0 Wb hz2.bel) (by have := right_16 hfl; omega) (right_sized hfl)
    rw [hfl] at h
    exact h)
  obtain ⟨hbX, -⟩ := hz2.box 1 rfl
  have x0 : Wb.cell? ⟨MB, 0, none⟩ = some (.int .u64 uid) := box_cell hbX 0
  have x1 : Wb.cell? ⟨MB, 1, none⟩ = some (.slice a flags.length c) := box_cell hbX 1
  obtain ⟨hbY, -⟩ := hz2.box 0 rfl
  have y2 : Wb.cell? ⟨RB, 2, none⟩ = some (.int .u64 nx) := box_cell hbY 2
  clear hbX hbY hf hp hf0 hfl
  replace hz2 := Lib.hid hz2
  show Calls Tryz.prog 108 #[.agg #[.int .u64 uid, .slice a flags.length c, .int .u64 mod, .string hash, .int .u64 size], .agg #[.string nm, .int .u64 va, .int .u64 nx, .int .u64 hg, .slice xa rows.length xc]] W _
  go_enter Tryz.func108, Tryz.ntmps108
  go_upto_region 1 with fail
  clear hWb hRB
  go_wp2_with (go_at_call 87; refine hright.out.mono ?_; rintro e w3 ⟨rfl, hb3⟩; clear x0 x1 y2; refine Hid.out ?_)
  have hz3 := Lib.hid (hz2.out.below hb3.out)
  obtain ⟨hbX, -⟩ := hz3.out.box 1 rfl
  have x2 : w3.cell? ⟨MB, 2, none⟩ = some (.int .u64 mod) := box_cell hbX 2
  have x3 : w3.cell? ⟨MB, 3, none⟩ = some (.string hash) := box_cell hbX 3
  have x4 : w3.cell? ⟨MB, 4, none⟩ = some (.int .u64 size) := box_cell hbX 4
  obtain ⟨hbY, -⟩ := hz3.out.box 0 rfl
  have y3 : w3.cell? ⟨RB, 3, none⟩ = some (.int .u64 hg) := box_cell hbY 3
  have hbF := Lib.hid hz3.out.bel
  clear hbX hbY hright hz2
  refine Lib.hid ?_
  go_wp2_with fail
  go_ret
  first | exact ⟨rfl, hbF⟩ | (rw [← hMB]; exact ⟨rfl, hbF⟩)
end Go.Proofs.YtdobbfjmlnlieaaGreat
namespace Go.Proofs.YtdobbfjmlnlieaaGreat
set_option linter.unusedSimpArgs false
open Go.RowKit
attribute [local go_sem ↓] Go.wp_at_zero Go.wp_at_succ

theorem boxOk_size {nm : ByteArray} (h : boxOk nm.data.toList = true) : nm.size ≤ maxLen := by
  unfold boxOk at h
  simp only [Bool.and_eq_true, decide_eq_true_eq] at h
  have h2 := h.2.1
  have h3 : nm.size = nm.data.toList.length := by rw [Array.length_toList]; rfl
  unfold maxLen
  omega
set_option maxRecDepth 100000 in
set_option maxHeartbeats 16000000 in
theorem boxRight_yes {W : World} (X : BxV) (next : Nat) (hp : BoxP X.b next) (hin : LtsIn W X.v X.rows) :
    Calls Tryz.prog 71 #[.agg #[.string X.name, .int .u64 X.validity, .int .u64 X.next, .int .u64 X.high, .slice X.a X.rows.length X.c], .int .u64 next] W fun e w' => e = .returned (.bool true) ∧ Hid (Below W.heap.size W w') := by
  obtain ⟨nm, va, nx, hg, rows, xa, xc⟩ := X
  have hz1 := (Zoo.nil W).newBox [.string nm, .int .u64 va, .int .u64 nx, .int .u64 hg, .slice xa rows.length xc].toArray 48
  have hin0 : Hid (∀ w', Below W.heap.size W w' → LtsIn w' (.slice xa rows.length xc) rows) := Lib.hid (fun w' h => hin.below h)
  generalize hMB : W.heap.size = MB at hz1
  generalize hWa : (W.alloc (.cells [.string nm, .int .u64 va, .int .u64 nx, .int .u64 hg, .slice xa rows.length xc].toArray 48)) = Wa at hz1
  have hname : Hid (Calls Tryz.prog 82 #[.string nm] Wa fun e w' => e = .returned (.tuple #[.string nm, .bool true]) ∧ Hid (Below Wa.heap.size Wa w')) := Lib.hid ((box_any nm (boxOk_size hp.ok) Wa).mono (by
    rintro e w' ⟨u, rfl, hu, hb⟩
    have h1 : boxOk nm.data.toList = true := hp.ok
    have h2 : boxL nm.data.toList = nm.data.toList := hp.nm
    obtain rfl : u = nm := toList_inj_ (by rw [ByteArray.toList_eq, ByteArray.toList_eq, hu.out, h2])
    rw [h1]
    exact ⟨rfl, Lib.hid hb⟩))
  obtain ⟨hbB, -⟩ := hz1.box 0 rfl
  have x0 : Wa.cell? ⟨MB, 0, none⟩ = some (.string nm) := box_cell hbB 0
  have q0 : (nm.toList != nm.toList) = false := by simp
  have q1 : ¬ ((va : Int) < 1) := by have := hp.v1; dsimp only [BxV.b] at this; omega
  have q2 : ¬ ((next : Int) ≤ (va : Int)) := by have := hp.v2; dsimp only [BxV.b] at this; omega
  have q3 : ¬ ((nx : Int) < 1) := by have := hp.n1; dsimp only [BxV.b] at this; omega
  have q4 : ¬ ((4294967296 : Int) < (nx : Int)) := by have := hp.n2; dsimp only [BxV.b] at this; omega
  have q5 : ¬ ((hg : Int) < 1) := by have := hp.h1; dsimp only [BxV.b] at this; omega
  have q6 : decide ((9223372036854775807 : Int) < (hg : Int)) = false := decide_eq_false (by have := hp.h2; dsimp only [BxV.b] at this; omega)
  have q7 : ¬ ((32 : Int) < (rows.length : Int)) := by have := hp.len; dsimp only [BxV.b] at this; rw [List.length_map] at this; omega
  have h32 : rows.length ≤ 32 := by omega
  have q8 : decide (next ≤ va) = false := decide_eq_false (by omega)
  replace q1 := decide_eq_false q1
  replace q2 := decide_eq_false q2
  replace q3 := decide_eq_false q3
  replace q4 := decide_eq_false q4
  replace q5 := decide_eq_false q5
  replace q7 := decide_eq_false q7
  replace hp := Lib.hid hp
  replace hz1 := Lib.hid hz1
  replace h32 := Lib.hid h32
  clear hin hbB
  show Calls Tryz.prog 71 #[.agg #[.string nm, .int .u64 va, .int .u64 nx, .int .u64 hg, .slice xa rows.length xc], .int .u64 next] W _
  go_enter Tryz.func71, Tryz.ntmps71
  go_wp2_with fail
  refine hname.out.mono ?_
  rintro e w3 ⟨rfl, hb3⟩
  dsimp only
  replace hz1 := Lib.hid (hz1.out.below hb3.out)
  obtain ⟨hbB, -⟩ := hz1.out.box 0 rfl
  clear x0
  have x0 : w3.cell? ⟨MB, 0, none⟩ = some (.string nm) := box_cell hbB 0
  have x1 : w3.cell? ⟨MB, 1, none⟩ = some (.int .u64 va) := box_cell hbB 1
  have x2 : w3.cell? ⟨MB, 2, none⟩ = some (.int .u64 nx) := box_cell hbB 2
  have x3 : w3.cell? ⟨MB, 3, none⟩ = some (.int .u64 hg) := box_cell hbB 3
  have x4 : w3.cell? ⟨MB, 4, none⟩ = some (.slice xa rows.length xc) := box_cell hbB 4
  clear hbB hname hb3
  go_wp2_with fail
  clear x0 x1 x2 x3 x4 q0 q1 q2 q3 q4 q5 q6 q7 q8
  go_loopw [63] (fun v63 wr => ∃ j : Nat, v63 = .int .i64 j ∧ j ≤ rows.length ∧ Hid (Zoo W wr [boxT MB [.string nm, .int .u64 va, .int .u64 nx, .int .u64 hg, .slice xa rows.length xc].toArray 48])) (fun v63 _ => rows.length - (intOf v63).toNat)
  case atStart => exact ⟨0, rfl, Nat.zero_le _, hz1⟩
  case round =>
    clear hz1
    obtain ⟨j, rfl, hj, hz⟩ := hrel
    by_cases hlt : j < rows.length
    · have hin1 := hin0.out wr hz.out.bel
      obtain ⟨b, bo, cap, hv, hc⟩ := hin1.cells_at hlt
      injection hv with hv1 hv2 hv3
      subst hv1 hv3
      have hlm : j < (rows.map LtV.x).length := by rw [List.length_map]; exact hlt
      have hlet := hp.out.lets _ (List.getElem_mem hlm)
      dsimp only [BxV.b] at hlet
      rw [List.getElem_map] at hlet
      have hfi := hin1.2 _ (List.getElem_mem hlt)
      have hprev : 0 < j → ∃ u : Nat, (∀ W', Below wr.heap.size wr W' → W'.cell? ⟨b, bo + (j - 1) * 5, none⟩ = some (.int .u64 u)) ∧ u < rows[j].x.uid := by
        intro hjp
        have hkl : j - 1 < rows.length := by omega
        obtain ⟨b', bo', cap', hv', hc'⟩ := hin1.cells_at hkl
        injection hv' with h1 h2 h3
        injection h1 with h1
        injection h1 with h1 h4
        subst h1 h4
        refine ⟨rows[j - 1].x.uid, fun W' hb => (hc' W' hb).1, ?_⟩
        have := List.pairwise_iff_getElem.1 hp.out.up (j - 1) j (by dsimp only [BxV.b]; rw [List.length_map]; exact hkl) hlm (by omega)
        dsimp only [BxV.b] at this
        rw [List.getElem_map, List.getElem_map] at this
        exact this
      obtain ⟨z, hz'⟩ : ∃ z, rows[j] = z := ⟨_, rfl⟩
      rw [hz'] at hc hlet hfi hprev
      obtain ⟨r0, r1, r2, r3, r4⟩ := hc wr (Below.refl _ _)
      replace r1 : wr.cell? ⟨b, bo + j * 5 + 1, none⟩ = some (.slice z.a z.x.flags.length z.c) := r1
      have hcall : Hid (∀ w', Below wr.heap.size wr w' → Calls Tryz.prog 108 #[.agg #[.int .u64 z.x.uid, .slice z.a z.x.flags.length z.c, .int .u64 z.x.mod, .string z.x.hash, .int .u64 z.x.size], .agg #[.string nm, .int .u64 va, .int .u64 nx, .int .u64 hg, .slice (some ⟨b, bo, none⟩) rows.length xc]] w' fun e w2 => e = .returned (.bool true) ∧ Hid (Below w'.heap.size w' w2)) := Lib.hid (fun w' hb => letterRight_yes z ⟨nm, va, nx, hg, rows, some ⟨b, bo, none⟩, xc⟩ hlet (hfi.below hb))
      replace hprev := Lib.hid hprev
      have hj0 : (0 : Int) ≤ (j : Int) := by omega
      have hj1 : (j : Int) < (rows.length : Int) := by omega
      have hzb := Lib.hid (hz.out.newBox [.int .u64 z.x.uid, .slice z.a z.x.flags.length z.c, .int .u64 z.x.mod, .string z.x.hash, .int .u64 z.x.size].toArray 50)
      have hbw := Lib.hid ((Below.refl wr.heap.size wr).alloc (Nat.le_refl _) (.cells [.int .u64 z.x.uid, .slice z.a z.x.flags.length z.c, .int .u64 z.x.mod, .string z.x.hash, .int .u64 z.x.size].toArray 50))
      clear hc hlet hfi hin1 hlm hz'
      go_upto_region 7 with fail
      generalize hLbE : wr.heap.size = Lb at hzb hcall hprev hbw ⊢
      generalize hWl : (wr.alloc (.cells [.int .u64 z.x.uid, .slice z.a z.x.flags.length z.c, .int .u64 z.x.mod, .string z.x.hash, .int .u64 z.x.size].toArray 50)) = wl at hzb hbw ⊢
      clear hWl r0 r1 r2 r3 r4 hj0
      have hzd := hzb.out.drew
      have hbd := hbw.out.drew
      clear hzb hbw
      have hcd := hcall.out
      replace hprev := hprev.out
      obtain ⟨hbL, -⟩ := hzd.box 0 rfl
      obtain ⟨hbB, -⟩ := hzd.box 1 rfl
      rcases Nat.eq_zero_or_pos j with rfl | hjp
      · clear hprev
        refine wp_region_hd (fun w' => (w'.cell? ⟨Lb, 0, none⟩ = some (.int .u64 z.x.uid) ∧ w'.cell? ⟨Lb, 1, none⟩ = some (.slice z.a z.x.flags.length z.c) ∧ w'.cell? ⟨Lb, 2, none⟩ = some (.int .u64 z.x.mod) ∧ w'.cell? ⟨Lb, 3, none⟩ = some (.string z.x.hash) ∧ w'.cell? ⟨Lb, 4, none⟩ = some (.int .u64 z.x.size)) ∧ (w'.cell? ⟨MB, 0, none⟩ = some (.string nm) ∧ w'.cell? ⟨MB, 1, none⟩ = some (.int .u64 va) ∧ w'.cell? ⟨MB, 2, none⟩ = some (.int .u64 nx) ∧ w'.cell? ⟨MB, 3, none⟩ = some (.int .u64 hg) ∧ w'.cell? ⟨MB, 4, none⟩ = some (.slice (some ⟨b, bo, none⟩) rows.length xc))) 19 1 (by kernel_rfl) rfl ⟨by kernel_rfl, by kernel_rfl, by kernel_rfl, by decide⟩ ⟨⟨box_cell hbL 0, box_cell hbL 1, box_cell hbL 2, box_cell hbL 3, box_cell hbL 4⟩, ⟨box_cell hbB 0, box_cell hbB 1, box_cell hbB 2, box_cell hbB 3, box_cell hbB 4⟩⟩ (fun hok hS0 => ?_)
        generalize wl.drew = Wd at *
        refine Hd.take (i := 0) (v := ?tv353) hok rfl (by kernel_rfl) (fun _ _ _ h => h) (Or.inl ⟨by rfl, ?ty353⟩) (by assumption) ?tr353
        case ty353 => (intro w hSw; (try dsimp only at hSw); go_simp; (try with_reducible rfl))
        try simp only [List.getElem_toArray, List.getElem_cons_succ, List.getElem_cons_zero, Act.put, List.setIfInBounds_toArray, List.set_cons_zero, List.set_cons_succ]
        refine Hd.take (i := 1) (v := ?tv354) hok rfl (by kernel_rfl) (fun _ _ _ h => h) (Or.inl ⟨by rfl, ?ty354⟩) (by assumption) ?tr354
        case ty354 => (intro w hSw; (try dsimp only at hSw); go_simp; (try with_reducible rfl))
        try simp only [List.getElem_toArray, List.getElem_cons_succ, List.getElem_cons_zero, Act.put, List.setIfInBounds_toArray, List.set_cons_zero, List.set_cons_succ]
        refine Hd.one (i := 2) rfl (by kernel_rfl) (fun K hK => ?_)
        go_simp
        refine (hcd _ hbd).mono ?_
        rintro e w5 ⟨rfl, hb5⟩
        dsimp only
        have hz5 := hzd.below hb5.out
        have hbd5 := hbd.trans (hb5.out.mono (by rw [← hLbE]; exact hbd.size))
        clear hbL hbB
        obtain ⟨hbL, -⟩ := hz5.box 0 rfl
        obtain ⟨hbB, -⟩ := hz5.box 1 rfl
        have hS1 : (w5.cell? ⟨Lb, 0, none⟩ = some (.int .u64 z.x.uid) ∧ w5.cell? ⟨Lb, 1, none⟩ = some (.slice z.a z.x.flags.length z.c) ∧ w5.cell? ⟨Lb, 2, none⟩ = some (.int .u64 z.x.mod) ∧ w5.cell? ⟨Lb, 3, none⟩ = some (.string z.x.hash) ∧ w5.cell? ⟨Lb, 4, none⟩ = some (.int .u64 z.x.size)) ∧ (w5.cell? ⟨MB, 0, none⟩ = some (.string nm) ∧ w5.cell? ⟨MB, 1, none⟩ = some (.int .u64 va) ∧ w5.cell? ⟨MB, 2, none⟩ = some (.int .u64 nx) ∧ w5.cell? ⟨MB, 3, none⟩ = some (.int .u64 hg) ∧ w5.cell? ⟨MB, 4, none⟩ = some (.slice (some ⟨b, bo, none⟩) rows.length xc)) := ⟨⟨box_cell hbL 0, box_cell hbL 1, box_cell hbL 2, box_cell hbL 3, box_cell hbL 4⟩, ⟨box_cell hbB 0, box_cell hbB 1, box_cell hbB 2, box_cell hbB 3, box_cell hbB 4⟩⟩
        refine hK _ _ hS1 ?_
        clear hK K hS0
        try simp only [List.getElem_toArray, List.getElem_cons_succ, List.getElem_cons_zero, Act.put, List.setIfInBounds_toArray, List.set_cons_zero, List.set_cons_succ]
        refine Hd.take (i := 3) (v := ?tv355) hok rfl (by kernel_rfl) (fun _ _ _ h => h) (Or.inl ⟨by rfl, ?ty355⟩) (by assumption) ?tr355
        case ty355 => (intro w hSw; (try dsimp only at hSw); go_simp; (try with_reducible rfl))
        try simp only [List.getElem_toArray, List.getElem_cons_succ, List.getElem_cons_zero, Act.put, List.setIfInBounds_toArray, List.set_cons_zero, List.set_cons_succ]
        refine Hd.take (i := 4) (v := ?tv356) hok rfl (by kernel_rfl) (fun _ _ _ h => h) (Or.inl ⟨by rfl, ?ty356⟩) (by assumption) ?tr356
        case ty356 => (intro w hSw; (try dsimp only at hSw); go_simp; (try with_reducible rfl))
        try simp only [List.getElem_toArray, List.getElem_cons_succ, List.getElem_cons_zero, Act.put, List.setIfInBounds_toArray, List.set_cons_zero, List.set_cons_succ]
        refine Hd.take (i := 5) (v := ?tv357) hok rfl (by kernel_rfl) (fun _ _ _ h => h) (Or.inl ⟨by rfl, ?ty357⟩) (by assumption) ?tr357
        case ty357 => (intro w hSw; (try dsimp only at hSw); go_simp; (try with_reducible rfl))
        try simp only [List.getElem_toArray, List.getElem_cons_succ, List.getElem_cons_zero, Act.put, List.setIfInBounds_toArray, List.set_cons_zero, List.set_cons_succ]
        refine Hd.take (i := 6) (v := ?tv358) hok rfl (by kernel_rfl) (fun _ _ _ h => h) (Or.inl ⟨by rfl, ?ty358⟩) (by assumption) ?tr358
        case ty358 => (intro w hSw; (try dsimp only at hSw); go_simp; (try with_reducible rfl))
        try simp only [List.getElem_toArray, List.getElem_cons_succ, List.getElem_cons_zero, Act.put, List.setIfInBounds_toArray, List.set_cons_zero, List.set_cons_succ]
        refine Hd.take (i := 7) (v := ?tv359) hok rfl (by kernel_rfl) (fun _ _ _ h => h) (Or.inl ⟨by rfl, ?ty359⟩) (by assumption) ?tr359
        case ty359 => (intro w hSw; (try dsimp only at hSw); go_simp; (try with_reducible rfl))
        try simp only [List.getElem_toArray, List.getElem_cons_succ, List.getElem_cons_zero, Act.put, List.setIfInBounds_toArray, List.set_cons_zero, List.set_cons_succ]
        refine Hd.take (i := 8) (v := _) hok rfl (by kernel_rfl) (fun _ _ _ h => h) (Or.inr ⟨by rfl, rfl⟩) (by assumption) ?_
        try simp only [List.getElem_toArray, List.getElem_cons_succ, List.getElem_cons_zero, Act.put, List.setIfInBounds_toArray, List.set_cons_zero, List.set_cons_succ]
        refine Hd.take (i := 9) (v := _) hok rfl (by kernel_rfl) (fun _ _ _ h => h) (Or.inr ⟨by rfl, rfl⟩) (by assumption) ?_
        try simp only [List.getElem_toArray, List.getElem_cons_succ, List.getElem_cons_zero, Act.put, List.setIfInBounds_toArray, List.set_cons_zero, List.set_cons_succ]
        refine Hd.take (i := 10) (v := _) hok rfl (by kernel_rfl) (fun _ _ _ h => h) (Or.inr ⟨by rfl, rfl⟩) (by assumption) ?_
        try simp only [List.getElem_toArray, List.getElem_cons_succ, List.getElem_cons_zero, Act.put, List.setIfInBounds_toArray, List.set_cons_zero, List.set_cons_succ]
        refine Hd.take (i := 11) (v := _) hok rfl (by kernel_rfl) (fun _ _ _ h => h) (Or.inr ⟨by rfl, rfl⟩) (by assumption) ?_
        try simp only [List.getElem_toArray, List.getElem_cons_succ, List.getElem_cons_zero, Act.put, List.setIfInBounds_toArray, List.set_cons_zero, List.set_cons_succ]
        refine Hd.take (i := 12) (v := _) hok rfl (by kernel_rfl) (fun _ _ _ h => h) (Or.inr ⟨by rfl, rfl⟩) (by assumption) ?_
        try simp only [List.getElem_toArray, List.getElem_cons_succ, List.getElem_cons_zero, Act.put, List.setIfInBounds_toArray, List.set_cons_zero, List.set_cons_succ]
        refine Hd.take (i := 13) (v := _) hok rfl (by kernel_rfl) (fun _ _ _ h => h) (Or.inr ⟨by rfl, rfl⟩) (by assumption) ?_
        try simp only [List.getElem_toArray, List.getElem_cons_succ, List.getElem_cons_zero, Act.put, List.setIfInBounds_toArray, List.set_cons_zero, List.set_cons_succ]
        refine Hd.take (i := 14) (v := _) hok rfl (by kernel_rfl) (fun _ _ _ h => h) (Or.inr ⟨by rfl, rfl⟩) (by assumption) ?_
        try simp only [List.getElem_toArray, List.getElem_cons_succ, List.getElem_cons_zero, Act.put, List.setIfInBounds_toArray, List.set_cons_zero, List.set_cons_succ]
        refine Hd.take (i := 15) (v := _) hok rfl (by kernel_rfl) (fun _ _ _ h => h) (Or.inr ⟨by rfl, rfl⟩) (by assumption) ?_
        try simp only [List.getElem_toArray, List.getElem_cons_succ, List.getElem_cons_zero, Act.put, List.setIfInBounds_toArray, List.set_cons_zero, List.set_cons_succ]
        refine Hd.take (i := 16) (v := _) hok rfl (by kernel_rfl) (fun _ _ _ h => h) (Or.inr ⟨by rfl, rfl⟩) (by assumption) ?_
        try simp only [List.getElem_toArray, List.getElem_cons_succ, List.getElem_cons_zero, Act.put, List.setIfInBounds_toArray, List.set_cons_zero, List.set_cons_succ]
        refine Hd.take (i := 17) (v := _) hok rfl (by kernel_rfl) (fun _ _ _ h => h) (Or.inr ⟨by rfl, rfl⟩) (by assumption) ?_
        try simp only [List.getElem_toArray, List.getElem_cons_succ, List.getElem_cons_zero, Act.put, List.setIfInBounds_toArray, List.set_cons_zero, List.set_cons_succ]
        refine Hd.take (i := 18) (v := ?tv360) hok rfl (by kernel_rfl) (fun _ _ _ h => h) (Or.inl ⟨by rfl, ?ty360⟩) (by assumption) ?tr360
        case ty360 => (intro w hSw; (try dsimp only at hSw); go_simp; (try with_reducible rfl))
        try simp only [List.getElem_toArray, List.getElem_cons_succ, List.getElem_cons_zero, Act.put, List.setIfInBounds_toArray, List.set_cons_zero, List.set_cons_succ]
        refine Hd.done (by kernel_rfl) ?_
        simp only [List.drop_succ_cons, List.drop_zero]
        have hzF := Lib.hid (hz5.sub (L' := [boxT MB [.string nm, .int .u64 va, .int .u64 nx, .int .u64 hg, .slice (some ⟨b, bo, none⟩) rows.length xc].toArray 48]) (List.Sublist.cons _ (List.Sublist.refl _)))
        clear hok hbL hbB hzd hz5 hcd hcall hb5
        have h32p := h32.out
        go_wp2_with fail
        go_roundw
        case rel => exact ⟨0 + 1, by go_num, by omega, hzF⟩
        case measure => simp [intOf] <;> omega
      · obtain ⟨u, hpc, hpu⟩ := hprev hjp
        have hu1 : decide ((z.x.uid : Int) ≤ (u : Int)) = false := decide_eq_false (by omega)
        have hu2 : decide (z.x.uid ≤ u) = false := decide_eq_false (by omega)
        have hp1 : (0 : Int) < (j : Int) := by omega
        have hp2 : (0 : Int) ≤ (j : Int) - 1 := by omega
        have hp3 : (j : Int) - 1 < (rows.length : Int) := by omega
        have hp4 : IntKind.i64.wrap ((j : Int) - 1) = (j : Int) - 1 := IntWalk.i64_in _ (by have := h32.out; omega)
        have hp5 : ((j : Int) - 1).toNat = j - 1 := by omega
        have hp6 : (1 : Int) ≤ (j : Int) := by omega
        clear hprev
        refine wp_region_hd (fun w' => (w'.cell? ⟨Lb, 0, none⟩ = some (.int .u64 z.x.uid) ∧ w'.cell? ⟨Lb, 1, none⟩ = some (.slice z.a z.x.flags.length z.c) ∧ w'.cell? ⟨Lb, 2, none⟩ = some (.int .u64 z.x.mod) ∧ w'.cell? ⟨Lb, 3, none⟩ = some (.string z.x.hash) ∧ w'.cell? ⟨Lb, 4, none⟩ = some (.int .u64 z.x.size)) ∧ (w'.cell? ⟨MB, 0, none⟩ = some (.string nm) ∧ w'.cell? ⟨MB, 1, none⟩ = some (.int .u64 va) ∧ w'.cell? ⟨MB, 2, none⟩ = some (.int .u64 nx) ∧ w'.cell? ⟨MB, 3, none⟩ = some (.int .u64 hg) ∧ w'.cell? ⟨MB, 4, none⟩ = some (.slice (some ⟨b, bo, none⟩) rows.length xc)) ∧ w'.cell? ⟨b, bo + (j - 1) * 5, none⟩ = some (.int .u64 u)) 19 1 (by kernel_rfl) rfl ⟨by kernel_rfl, by kernel_rfl, by kernel_rfl, by decide⟩ ⟨⟨box_cell hbL 0, box_cell hbL 1, box_cell hbL 2, box_cell hbL 3, box_cell hbL 4⟩, ⟨box_cell hbB 0, box_cell hbB 1, box_cell hbB 2, box_cell hbB 3, box_cell hbB 4⟩, hpc _ hbd⟩ (fun hok hS0 => ?_)
        generalize wl.drew = Wd at *
        refine Hd.take (i := 0) (v := ?tv361) hok rfl (by kernel_rfl) (fun _ _ _ h => h) (Or.inl ⟨by rfl, ?ty361⟩) (by assumption) ?tr361
        case ty361 => (intro w hSw; (try dsimp only at hSw); go_simp; (try with_reducible rfl))
        try simp only [List.getElem_toArray, List.getElem_cons_succ, List.getElem_cons_zero, Act.put, List.setIfInBounds_toArray, List.set_cons_zero, List.set_cons_succ]
        refine Hd.take (i := 1) (v := ?tv362) hok rfl (by kernel_rfl) (fun _ _ _ h => h) (Or.inl ⟨by rfl, ?ty362⟩) (by assumption) ?tr362
        case ty362 => (intro w hSw; (try dsimp only at hSw); go_simp; (try with_reducible rfl))
        try simp only [List.getElem_toArray, List.getElem_cons_succ, List.getElem_cons_zero, Act.put, List.setIfInBounds_toArray, List.set_cons_zero, List.set_cons_succ]
        refine Hd.one (i := 2) rfl (by kernel_rfl) (fun K hK => ?_)
        go_simp
        refine (hcd _ hbd).mono ?_
        rintro e w5 ⟨rfl, hb5⟩
        dsimp only
        have hz5 := hzd.below hb5.out
        have hbd5 := hbd.trans (hb5.out.mono (by rw [← hLbE]; exact hbd.size))
        clear hbL hbB
        obtain ⟨hbL, -⟩ := hz5.box 0 rfl
        obtain ⟨hbB, -⟩ := hz5.box 1 rfl
        have hS1 : (w5.cell? ⟨Lb, 0, none⟩ = some (.int .u64 z.x.uid) ∧ w5.cell? ⟨Lb, 1, none⟩ = some (.slice z.a z.x.flags.length z.c) ∧ w5.cell? ⟨Lb, 2, none⟩ = some (.int .u64 z.x.mod) ∧ w5.cell? ⟨Lb, 3, none⟩ = some (.string z.x.hash) ∧ w5.cell? ⟨Lb, 4, none⟩ = some (.int .u64 z.x.size)) ∧ (w5.cell? ⟨MB, 0, none⟩ = some (.string nm) ∧ w5.cell? ⟨MB, 1, none⟩ = some (.int .u64 va) ∧ w5.cell? ⟨MB, 2, none⟩ = some (.int .u64 nx) ∧ w5.cell? ⟨MB, 3, none⟩ = some (.int .u64 hg) ∧ w5.cell? ⟨MB, 4, none⟩ = some (.slice (some ⟨b, bo, none⟩) rows.length xc)) ∧ w5.cell? ⟨b, bo + (j - 1) * 5, none⟩ = some (.int .u64 u) := ⟨⟨box_cell hbL 0, box_cell hbL 1, box_cell hbL 2, box_cell hbL 3, box_cell hbL 4⟩, ⟨box_cell hbB 0, box_cell hbB 1, box_cell hbB 2, box_cell hbB 3, box_cell hbB 4⟩, hpc _ hbd5⟩
        refine hK _ _ hS1 ?_
        clear hK K hS0
        try simp only [List.getElem_toArray, List.getElem_cons_succ, List.getElem_cons_zero, Act.put, List.setIfInBounds_toArray, List.set_cons_zero, List.set_cons_succ]
        refine Hd.take (i := 3) (v := ?tv363) hok rfl (by kernel_rfl) (fun _ _ _ h => h) (Or.inl ⟨by rfl, ?ty363⟩) (by assumption) ?tr363
        case ty363 => (intro w hSw; (try dsimp only at hSw); go_simp; (try with_reducible rfl))
        try simp only [List.getElem_toArray, List.getElem_cons_succ, List.getElem_cons_zero, Act.put, List.setIfInBounds_toArray, List.set_cons_zero, List.set_cons_succ]
        refine Hd.take (i := 4) (v := ?tv364) hok rfl (by kernel_rfl) (fun _ _ _ h => h) (Or.inl ⟨by rfl, ?ty364⟩) (by assumption) ?tr364
        case ty364 => (intro w hSw; (try dsimp only at hSw); go_simp; (try with_reducible rfl))
        try simp only [List.getElem_toArray, List.getElem_cons_succ, List.getElem_cons_zero, Act.put, List.setIfInBounds_toArray, List.set_cons_zero, List.set_cons_succ]
        refine Hd.take (i := 5) (v := ?tv365) hok rfl (by kernel_rfl) (fun _ _ _ h => h) (Or.inl ⟨by rfl, ?ty365⟩) (by assumption) ?tr365
        case ty365 => (intro w hSw; (try dsimp only at hSw); go_simp; (try with_reducible rfl))
        try simp only [List.getElem_toArray, List.getElem_cons_succ, List.getElem_cons_zero, Act.put, List.setIfInBounds_toArray, List.set_cons_zero, List.set_cons_succ]
        refine Hd.take (i := 6) (v := ?tv366) hok rfl (by kernel_rfl) (fun _ _ _ h => h) (Or.inl ⟨by rfl, ?ty366⟩) (by assumption) ?tr366
        case ty366 => (intro w hSw; (try dsimp only at hSw); go_simp; (try with_reducible rfl))
        try simp only [List.getElem_toArray, List.getElem_cons_succ, List.getElem_cons_zero, Act.put, List.setIfInBounds_toArray, List.set_cons_zero, List.set_cons_succ]
        refine Hd.take (i := 7) (v := ?tv367) hok rfl (by kernel_rfl) (fun _ _ _ h => h) (Or.inl ⟨by rfl, ?ty367⟩) (by assumption) ?tr367
        case ty367 => (intro w hSw; (try dsimp only at hSw); go_simp; (try with_reducible rfl))
        try simp only [List.getElem_toArray, List.getElem_cons_succ, List.getElem_cons_zero, Act.put, List.setIfInBounds_toArray, List.set_cons_zero, List.set_cons_succ]
        refine Hd.take (i := 8) (v := ?tv368) hok rfl (by kernel_rfl) (fun _ _ _ h => h) (Or.inl ⟨by rfl, ?ty368⟩) (by assumption) ?tr368
        case ty368 => (intro w hSw; (try dsimp only at hSw); go_simp; (try with_reducible rfl))
        try simp only [List.getElem_toArray, List.getElem_cons_succ, List.getElem_cons_zero, Act.put, List.setIfInBounds_toArray, List.set_cons_zero, List.set_cons_succ]
        refine Hd.take (i := 9) (v := ?tv369) hok rfl (by kernel_rfl) (fun _ _ _ h => h) (Or.inl ⟨by rfl, ?ty369⟩) (by assumption) ?tr369
        case ty369 => (intro w hSw; (try dsimp only at hSw); go_simp; (try with_reducible rfl))
        try simp only [List.getElem_toArray, List.getElem_cons_succ, List.getElem_cons_zero, Act.put, List.setIfInBounds_toArray, List.set_cons_zero, List.set_cons_succ]
        refine Hd.take (i := 10) (v := ?tv370) hok rfl (by kernel_rfl) (fun _ _ _ h => h) (Or.inl ⟨by rfl, ?ty370⟩) (by assumption) ?tr370
        case ty370 => (intro w hSw; (try dsimp only at hSw); go_simp; (try with_reducible rfl))
        try simp only [List.getElem_toArray, List.getElem_cons_succ, List.getElem_cons_zero, Act.put, List.setIfInBounds_toArray, List.set_cons_zero, List.set_cons_succ]
        refine Hd.take (i := 11) (v := ?tv371) hok rfl (by kernel_rfl) (fun _ _ _ h => h) (Or.inl ⟨by rfl, ?ty371⟩) (by assumption) ?tr371
        case ty371 => (intro w hSw; (try dsimp only at hSw); go_simp; (try with_reducible rfl))
        try simp only [List.getElem_toArray, List.getElem_cons_succ, List.getElem_cons_zero, Act.put, List.setIfInBounds_toArray, List.set_cons_zero, List.set_cons_succ]
        refine Hd.take (i := 12) (v := ?tv372) hok rfl (by kernel_rfl) (fun _ _ _ h => h) (Or.inl ⟨by rfl, ?ty372⟩) (by assumption) ?tr372
        case ty372 => (intro w hSw; (try dsimp only at hSw); go_simp; (try with_reducible rfl))
        try simp only [List.getElem_toArray, List.getElem_cons_succ, List.getElem_cons_zero, Act.put, List.setIfInBounds_toArray, List.set_cons_zero, List.set_cons_succ]
        refine Hd.take (i := 13) (v := ?tv373) hok rfl (by kernel_rfl) (fun _ _ _ h => h) (Or.inl ⟨by rfl, ?ty373⟩) (by assumption) ?tr373
        case ty373 => (intro w hSw; (try dsimp only at hSw); go_simp; (try with_reducible rfl))
        try simp only [List.getElem_toArray, List.getElem_cons_succ, List.getElem_cons_zero, Act.put, List.setIfInBounds_toArray, List.set_cons_zero, List.set_cons_succ]
        refine Hd.take (i := 14) (v := ?tv374) hok rfl (by kernel_rfl) (fun _ _ _ h => h) (Or.inl ⟨by rfl, ?ty374⟩) (by assumption) ?tr374
        case ty374 => (intro w hSw; (try dsimp only at hSw); go_simp; (try with_reducible rfl))
        try simp only [List.getElem_toArray, List.getElem_cons_succ, List.getElem_cons_zero, Act.put, List.setIfInBounds_toArray, List.set_cons_zero, List.set_cons_succ]
        refine Hd.take (i := 15) (v := ?tv375) hok rfl (by kernel_rfl) (fun _ _ _ h => h) (Or.inl ⟨by rfl, ?ty375⟩) (by assumption) ?tr375
        case ty375 => (intro w hSw; (try dsimp only at hSw); go_simp; (try with_reducible rfl))
        try simp only [List.getElem_toArray, List.getElem_cons_succ, List.getElem_cons_zero, Act.put, List.setIfInBounds_toArray, List.set_cons_zero, List.set_cons_succ]
        refine Hd.take (i := 16) (v := ?tv376) hok rfl (by kernel_rfl) (fun _ _ _ h => h) (Or.inl ⟨by rfl, ?ty376⟩) (by assumption) ?tr376
        case ty376 => (intro w hSw; (try dsimp only at hSw); go_simp; (try with_reducible rfl))
        try simp only [List.getElem_toArray, List.getElem_cons_succ, List.getElem_cons_zero, Act.put, List.setIfInBounds_toArray, List.set_cons_zero, List.set_cons_succ]
        refine Hd.take (i := 17) (v := ?tv377) hok rfl (by kernel_rfl) (fun _ _ _ h => h) (Or.inl ⟨by rfl, ?ty377⟩) (by assumption) ?tr377
        case ty377 => (intro w hSw; (try dsimp only at hSw); go_simp; (try with_reducible rfl))
        try simp only [List.getElem_toArray, List.getElem_cons_succ, List.getElem_cons_zero, Act.put, List.setIfInBounds_toArray, List.set_cons_zero, List.set_cons_succ]
        refine Hd.take (i := 18) (v := ?tv378) hok rfl (by kernel_rfl) (fun _ _ _ h => h) (Or.inl ⟨by rfl, ?ty378⟩) (by assumption) ?tr378
        case ty378 => (intro w hSw; (try dsimp only at hSw); go_simp; (try with_reducible rfl))
        try simp only [List.getElem_toArray, List.getElem_cons_succ, List.getElem_cons_zero, Act.put, List.setIfInBounds_toArray, List.set_cons_zero, List.set_cons_succ]
        refine Hd.done (by kernel_rfl) ?_
        simp only [List.drop_succ_cons, List.drop_zero]
        have hzF := Lib.hid (hz5.sub (L' := [boxT MB [.string nm, .int .u64 va, .int .u64 nx, .int .u64 hg, .slice (some ⟨b, bo, none⟩) rows.length xc].toArray 48]) (List.Sublist.cons _ (List.Sublist.refl _)))
        clear hok hbL hbB hzd hz5 hcd hcall hb5
        have h32p := h32.out
        go_wp2_with fail
        go_roundw
        case rel => exact ⟨j + 1, by go_num, by omega, hzF⟩
        case measure => simp [intOf] <;> omega
    · obtain rfl : j = rows.length := by omega
      have hbF := Lib.hid hz.out.bel
      go_wp2_with fail
      go_ret
      first | exact ⟨rfl, hbF⟩ | (rw [← hMB]; exact ⟨rfl, hbF⟩)
end Go.Proofs.YtdobbfjmlnlieaaGreat
