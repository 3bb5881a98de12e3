/- The document's answer which mailboxes may be: walked. (written by tools/gen_MmL.py) The document's Home: walked. -/
import Derived.Test.YtcnebfmlelcliaaB05
namespace Go.Proofs.Ytcnebfmlelcliaa
set_option linter.unusedSimpArgs false
open Go.RowKit
attribute [local go_sem ↓] Go.wp_at_zero Go.wp_at_succ

set_option maxRecDepth 100000 in
set_option maxHeartbeats 16000000 in
theorem refBoxR_any {W : World} (x : BxV) (next : Nat) (hin : LtsIn W x.v x.rows) (hn : x.name.size ≤ maxLen) (hfl : ∀ z ∈ x.rows, z.x.flags.length ≤ 10000) (hfs : ∀ z ∈ x.rows, Sized z.x.flags) :
    Calls Try.prog 50 #[.agg (bxT.enc x).toArray, .int .u64 next] W (YesNo (BoxP x.b next) W) := by
  obtain ⟨nm, va, nx, hg, rows, xa, xc⟩ := x
  dsimp only at hn hfl hfs
  have hz1 := (Zoo.nil W).newBox [.string nm, .int .u64 va, .int .u64 nx, .int .u64 hg, .slice xa rows.length xc].toArray 28
  generalize hMB : W.heap.size = MB at hz1
  generalize hWa : (W.alloc (.cells [.string nm, .int .u64 va, .int .u64 nx, .int .u64 hg, .slice xa rows.length xc].toArray 28)) = Wa at hz1
  have hin0 : Hid (∀ w', Below W.heap.size W w' → LtsIn w' (.slice xa rows.length xc) rows) := Lib.hid (fun w' h => hin.below h)
  have hname := Lib.hid (refBox_any nm hn Wa)
  obtain ⟨hbB, -⟩ := hz1.box 0 rfl
  have x0 : Wa.cell? ⟨MB, 0, none⟩ = some (.string nm) := box_cell hbB 0
  replace hfl := Lib.hid hfl
  replace hfs := Lib.hid hfs
  replace hz1 := Lib.hid hz1
  clear hin hbB hn
  show Calls Try.prog 50 #[.agg #[.string nm, .int .u64 va, .int .u64 nx, .int .u64 hg, .slice xa rows.length xc], .int .u64 next] W _
  generalize hP : BoxP _ next = Pp
  replace hP : Hid (BoxP (⟨nm, va, nx, hg, rows.map LtV.x⟩ : Bx) next = Pp) := Lib.hid hP
  go_enter Try.func50, Try.ntmps50
  go_wp2_with fail
  refine hname.out.mono ?_
  rintro e w3 ⟨u, rfl, hu, hb3⟩
  replace hz1 := Lib.hid (hz1.out.below hb3)
  obtain ⟨hbB, -⟩ := hz1.out.box 0 rfl
  clear x0
  obtain ⟨va2, hva⟩ : ∃ va2 : Nat, va2 = va := ⟨_, rfl⟩
  obtain ⟨nx2, hnx⟩ : ∃ nx2 : Nat, nx2 = nx := ⟨_, rfl⟩
  obtain ⟨hg2, hhg⟩ : ∃ hg2 : Nat, hg2 = hg := ⟨_, rfl⟩
  have x0 : w3.cell? ⟨MB, 0, none⟩ = some (.string nm) := box_cell hbB 0
  have x1 : w3.cell? ⟨MB, 1, none⟩ = some (.int .u64 va2) := by rw [hva]; exact box_cell hbB 1
  have x2 : w3.cell? ⟨MB, 2, none⟩ = some (.int .u64 nx2) := by rw [hnx]; exact box_cell hbB 2
  have x3 : w3.cell? ⟨MB, 3, none⟩ = some (.int .u64 hg2) := by rw [hhg]; exact box_cell hbB 3
  have x4 : w3.cell? ⟨MB, 4, none⟩ = some (.slice xa rows.length xc) := box_cell hbB 4
  replace hva := Lib.hid hva
  replace hnx := Lib.hid hnx
  replace hhg := Lib.hid hhg
  clear hbB hname hb3
  go_upto_region 2 with fail
  go_cut [60] (fun v60 wx => v60 = .bool ((!boxOk nm.data.toList) || ((u.toList != nm.toList)) || (((va2 : Int) == 0)) || (decide ((next : Int) ≤ (va2 : Int))) || (((nx2 : Int) == 0)) || (decide ((4294967296 : Int) < (nx2 : Int))) || (((hg2 : Int) == 0)) || (decide ((9223372036854775807 : Int) < (hg2 : Int))) || (decide ((32 : Int) < (rows.length : Int)))) ∧ Hid (Zoo W wx [boxT MB [.string nm, .int .u64 va, .int .u64 nx, .int .u64 hg, .slice xa rows.length xc].toArray 28]))
  case first =>
    cases g1 : !boxOk nm.data.toList with
    | true =>
      go_wp2_with fail
      go_meet
      case rel => exact ⟨by simp only [g1, Bool.or_false, Bool.or_true, Bool.false_or, Bool.true_or], hz1⟩
    | false =>
      cases g2 : (u.toList != nm.toList) with
      | true =>
        have g2' : (u.toList == nm.toList) = false := by simpa [bne] using g2
        go_wp2_with fail
        go_meet
        case rel => exact ⟨by simp only [g1, g2, Bool.or_false, Bool.or_true, Bool.false_or, Bool.true_or], hz1⟩
      | false =>
        have g2' : (u.toList == nm.toList) = true := by simpa [bne] using g2
        cases g3 : ((va2 : Int) == 0) with
        | true =>
          go_wp2_with fail
          go_meet
          case rel => exact ⟨by simp only [g1, g2, g3, Bool.or_false, Bool.or_true, Bool.false_or, Bool.true_or], hz1⟩
        | false =>
          cases g4 : decide ((next : Int) ≤ (va2 : Int)) with
          | true =>
            have g4' := of_decide_eq_true g4
            replace g4 := Lib.hid g4
            go_wp2_with fail
            go_meet
            case rel => exact ⟨by simp only [g1, g2, g3, g4.out, Bool.or_false, Bool.or_true, Bool.false_or, Bool.true_or], hz1⟩
          | false =>
            have g4'' : decide (next ≤ va2) = false := decide_eq_false (by have h := of_decide_eq_false g4; omega)
            cases g5 : ((nx2 : Int) == 0) with
            | true =>
              go_wp2_with fail
              go_meet
              case rel => exact ⟨by simp only [g1, g2, g3, g4, g5, Bool.or_false, Bool.or_true, Bool.false_or, Bool.true_or], hz1⟩
            | false =>
              cases g6 : decide ((4294967296 : Int) < (nx2 : Int)) with
              | true =>
                have g6' := of_decide_eq_true g6
                replace g6 := Lib.hid g6
                go_wp2_with fail
                go_meet
                case rel => exact ⟨by simp only [g1, g2, g3, g4, g5, g6.out, Bool.or_false, Bool.or_true, Bool.false_or, Bool.true_or], hz1⟩
              | false =>
                cases g7 : ((hg2 : Int) == 0) with
                | true =>
                  go_wp2_with fail
                  go_meet
                  case rel => exact ⟨by simp only [g1, g2, g3, g4, g5, g6, g7, Bool.or_false, Bool.or_true, Bool.false_or, Bool.true_or], hz1⟩
                | false =>
                  cases g8 : decide ((9223372036854775807 : Int) < (hg2 : Int)) with
                  | true =>
                    have g8' := of_decide_eq_true g8
                    replace g8 := Lib.hid g8
                    go_wp2_with fail
                    go_meet
                    case rel => exact ⟨by simp only [g1, g2, g3, g4, g5, g6, g7, g8.out, Bool.or_false, Bool.or_true, Bool.false_or, Bool.true_or], hz1⟩
                  | false =>
                    cases g9 : decide ((32 : Int) < (rows.length : Int)) with
                    | true =>
                      have g9' := of_decide_eq_true g9
                      replace g9 := Lib.hid g9
                      go_wp2_with fail
                      go_meet
                      case rel => exact ⟨by simp only [g1, g2, g3, g4, g5, g6, g7, g8, g9.out, Bool.or_false, Bool.or_true, Bool.false_or, Bool.true_or], hz1⟩
                    | false =>
                      go_wp2_with fail
                      go_meet
                      case rel => exact ⟨by simp only [g1, g2, g3, g4, g5, g6, g7, g8, g9, Bool.or_false, Bool.or_true, Bool.false_or, Bool.true_or], hz1⟩
  case rest =>
  clear hz1 x0 x1 x2 x3 x4
  obtain ⟨rfl, hz1⟩ := hcut
  obtain ⟨B, hB⟩ : ∃ B, ((!boxOk nm.data.toList) || ((u.toList != nm.toList)) || (((va2 : Int) == 0)) || (decide ((next : Int) ≤ (va2 : Int))) || (((nx2 : Int) == 0)) || (decide ((4294967296 : Int) < (nx2 : Int))) || (((hg2 : Int) == 0)) || (decide ((9223372036854775807 : Int) < (hg2 : Int))) || (decide ((32 : Int) < (rows.length : Int)))) = B := ⟨_, rfl⟩
  rw [hB]
  cases B with
  | true =>
    have hno : Hid (false = true ↔ Pp) := Lib.hid (by
      rw [← hP.out]
      refine Iff.intro (fun h => by cases h) (fun h => ?_)
      have g2 : (u.toList != nm.toList) = false := by rw [bne, eqS_of hu (Lib.hid rfl), h.nm]; simp
      have g3 : ((va2 : Int) == 0) = false := beq_eq_false_iff_ne.2 (by have := h.v1; dsimp only at this; have := hva.out; have := hnx.out; have := hhg.out; omega)
      have g4 : decide ((next : Int) ≤ (va2 : Int)) = false := decide_eq_false (by have := h.v2; dsimp only at this; have := hva.out; have := hnx.out; have := hhg.out; omega)
      have g5 : ((nx2 : Int) == 0) = false := beq_eq_false_iff_ne.2 (by have := h.n1; dsimp only at this; have := hva.out; have := hnx.out; have := hhg.out; omega)
      have g6 : decide ((4294967296 : Int) < (nx2 : Int)) = false := decide_eq_false (by have := h.n2; dsimp only at this; have := hva.out; have := hnx.out; have := hhg.out; omega)
      have g7 : ((hg2 : Int) == 0) = false := beq_eq_false_iff_ne.2 (by have := h.h1; dsimp only at this; have := hva.out; have := hnx.out; have := hhg.out; omega)
      have g8 : decide ((9223372036854775807 : Int) < (hg2 : Int)) = false := decide_eq_false (by have := h.h2; dsimp only at this; have := hva.out; have := hnx.out; have := hhg.out; omega)
      have g9 : decide ((32 : Int) < (rows.length : Int)) = false := decide_eq_false (by have := h.len; dsimp only at this; rw [List.length_map] at this; omega)
      have g1 : (!boxOk nm.data.toList) = false := by rw [h.ok]; rfl
      rw [g1, g2, g3, g4, g5, g6, g7, g8, g9] at hB
      exact absurd hB (by simp))
    have hbF := Lib.hid hz1.out.bel
    clear hB hz1
    go_wp2_with fail
    go_ret
    exact ⟨false, rfl, hno, hbF⟩
  | false =>
    simp only [Bool.or_eq_false_iff] at hB
    replace hB := Lib.hid hB
    have hnx2 := hnx.out
    have hBx : Hid (∀ h : (∀ z ∈ rows.map LtV.x, LetP z ⟨nm, va, nx, hg, rows.map LtV.x⟩) ∧ (rows.map LtV.x).Pairwise (fun x y => x.uid < y.uid), BoxP (⟨nm, va, nx, hg, rows.map LtV.x⟩ : Bx) next) := Lib.hid (fun h => by
      obtain ⟨⟨⟨⟨⟨⟨⟨⟨h1, h2⟩, h3⟩, h4⟩, h5⟩, h6⟩, h7⟩, h8⟩, h9⟩ := hB.out
      have e1 := hva.out
      have e3 := hhg.out
      have h4' := of_decide_eq_false h4
      have h6' := of_decide_eq_false h6
      have h8' := of_decide_eq_false h8
      have h9' := of_decide_eq_false h9
      have h3' := beq_eq_false_iff_ne.1 h3
      have h5' := beq_eq_false_iff_ne.1 h5
      have h7' := beq_eq_false_iff_ne.1 h7
      have hnm : boxL nm.data.toList = nm.data.toList := by
        have : (u.toList == nm.toList) = true := by simpa [bne] using h2
        rw [eqS_of hu (Lib.hid rfl)] at this
        exact eq_of_beq this
      have hok : boxOk nm.data.toList = true := by simpa using h1
      exact ⟨hok, hnm, by dsimp only; omega, by dsimp only; omega, by dsimp only; omega, by dsimp only; omega, by dsimp only; omega, by dsimp only; omega, by dsimp only; rw [List.length_map]; omega, h.1, h.2⟩)
    have h32 : rows.length ≤ 32 := by
      have h9' := of_decide_eq_false hB.out.2
      omega
    clear hva hnx hhg hnx2 hB hu va2 nx2 hg2
    obtain ⟨hbB, -⟩ := hz1.out.box 0 rfl
    have x4 : wc.cell? ⟨MB, 4, none⟩ = some (.slice xa rows.length xc) := box_cell hbB 4
    clear hbB
    go_wp2_with fail
    go_loopw [7, 8] (fun v7 v8 wr => ∃ j last : Nat, v8 = .int .i64 j ∧ v7 = .int .u64 last ∧ j ≤ rows.length ∧ Hid (UpTo (rows.map LtV.x) ⟨nm, va, nx, hg, rows.map LtV.x⟩ j last) ∧ Hid (j = 0 ∧ last = 0 ∨ ∃ k, k < j ∧ (rows.map LtV.x)[k]?.map Lt.uid = some last) ∧ Hid (Zoo W wr [boxT MB [.string nm, .int .u64 va, .int .u64 nx, .int .u64 hg, .slice xa rows.length xc].toArray 28])) (fun _ v8 _ => rows.length - (intOf v8).toNat)
    case atStart => exact ⟨0, 0, rfl, rfl, Nat.zero_le _, Lib.hid (UpTo.zero _ _), Lib.hid (.inl ⟨rfl, rfl⟩), hz1⟩
    case round =>
      clear x4 hz1
      obtain ⟨j, last, rfl, rfl, hj, hup, hlast, hz⟩ := hrel
      obtain ⟨hbB, -⟩ := hz.out.box 0 rfl
      have x4 : wr.cell? ⟨MB, 4, none⟩ = some (.slice xa rows.length xc) := box_cell hbB 4
      clear hbB
      by_cases hlt : j < rows.length
      · have hin1 := hin0.out wr hz.out.bel
        obtain ⟨b, bo, cap, hv, -, hblt, hcells⟩ := ltT.rd_cells hin1.1 hlt
        injection hv with hv1 hv2 hv3
        subst hv1 hv3
        have hzm := List.getElem_mem hlt
        have hlm : j < (rows.map LtV.x).length := by rw [List.length_map]; exact hlt
        have hfi := hin1.2 _ hzm
        have hfl1 := hfl.out _ hzm
        have hfs1 := hfs.out _ hzm
        have hstep : ∀ h1 : LetP rows[j].x ⟨nm, va, nx, hg, rows.map LtV.x⟩, last < rows[j].x.uid → UpTo (rows.map LtV.x) ⟨nm, va, nx, hg, rows.map LtV.x⟩ (j + 1) rows[j].x.uid := fun h1 h2 => by
          have := hup.out.step hlm (by rw [List.getElem_map]; exact h1) (by rw [List.getElem_map]; exact h2)
          rwa [List.getElem_map] at this
        have hneed : BoxP (⟨nm, va, nx, hg, rows.map LtV.x⟩ : Bx) next → LetP rows[j].x ⟨nm, va, nx, hg, rows.map LtV.x⟩ ∧ last < rows[j].x.uid := fun h => by
          have h1 := h.lets _ (List.getElem_mem hlm)
          have h2 := h.last hlm hlast.out
          dsimp only at h1 h2
          rw [List.getElem_map] at h1 h2
          exact ⟨h1, h2⟩
        have hnext : (rows.map LtV.x)[j]?.map Lt.uid = some rows[j].x.uid := by rw [List.getElem?_map, List.getElem?_eq_getElem hlt]; rfl
        obtain ⟨z, hz'⟩ : ∃ z, rows[j] = z := ⟨_, rfl⟩
        rw [hz'] at hcells hfi hfl1 hfs1 hstep hneed hnext
        have r0 : wr.cell? ⟨b, bo + (j * 5 + 0), none⟩ = some (.int .u64 z.x.uid) := hcells 0 _ rfl
        have r1 : wr.cell? ⟨b, bo + (j * 5 + 1), none⟩ = some (.slice z.a z.x.flags.length z.c) := hcells 1 _ rfl
        have r2 : wr.cell? ⟨b, bo + (j * 5 + 2), none⟩ = some (.int .u64 z.x.mod) := hcells 2 _ rfl
        have r3 : wr.cell? ⟨b, bo + (j * 5 + 3), none⟩ = some (.string z.x.hash) := hcells 3 _ rfl
        have r4 : wr.cell? ⟨b, bo + (j * 5 + 4), none⟩ = some (.int .u64 z.x.size) := hcells 4 _ rfl
        rw [← Nat.add_assoc] at r0 r1 r2 r3 r4
        rw [Nat.add_zero] at r0
        replace x4 : wr.cell? ⟨MB, 4, none⟩ = some (.slice (some ⟨b, bo, none⟩) rows.length xc) := x4
        have hj0 : (0 : Int) ≤ (j : Int) := by omega
        have hj1 : (j : Int) < (rows.length : Int) := by omega
        have hzb := hz.out.newBox [.int .u64 z.x.uid, .slice z.a z.x.flags.length z.c, .int .u64 z.x.mod, .string z.x.hash, .int .u64 z.x.size].toArray 66
        have hbl := Below.refl wr.heap.size wr
        have hfi2 := Rd.below hfi (hbl.alloc (Nat.le_refl _) (.cells [.int .u64 z.x.uid, .slice z.a z.x.flags.length z.c, .int .u64 z.x.mod, .string z.x.hash, .int .u64 z.x.size].toArray 66))
        have hright : Hid (Calls Try.prog 60 #[.slice z.a z.x.flags.length z.c] (wr.alloc (.cells #[.int .u64 z.x.uid, .slice z.a z.x.flags.length z.c, .int .u64 z.x.mod, .string z.x.hash, .int .u64 z.x.size] 66)) fun e w' => e = .returned (.bool (rightB z.x.flags)) ∧ Hid (Below (wr.alloc (.cells #[.int .u64 z.x.uid, .slice z.a z.x.flags.length z.c, .int .u64 z.x.mod, .string z.x.hash, .int .u64 z.x.size] 66)).heap.size (wr.alloc (.cells #[.int .u64 z.x.uid, .slice z.a z.x.flags.length z.c, .int .u64 z.x.mod, .string z.x.hash, .int .u64 z.x.size] 66)) w')) := Lib.hid (refRight_any _ z.x.flags _ hfi2 (by omega) hfs1)
        replace hzb := Lib.hid hzb
        replace hstep := Lib.hid hstep
        replace hneed := Lib.hid hneed
        replace hnext := Lib.hid hnext
        clear hcells hfi hfl1 hfs1 hin1 hzm hlm hz' hbl hfi2 hz
        go_upto_region 9 with fail
        generalize hLbE : wr.heap.size = Lb at hzb hright ⊢
        generalize hWl : (wr.alloc (.cells #[.int .u64 z.x.uid, .slice z.a z.x.flags.length z.c, .int .u64 z.x.mod, .string z.x.hash, .int .u64 z.x.size] 66)) = wl at hzb hright ⊢
        have hz3 := hzb
        clear hzb hLbE hWl r0 r1 r2 r3 r4 x4
        obtain ⟨hbL, -⟩ := hz3.out.box 0 rfl
        obtain ⟨hbB, -⟩ := hz3.out.box 1 rfl
        have y0 : wl.cell? ⟨Lb, 0, none⟩ = some (.int .u64 z.x.uid) := box_cell hbL 0
        have y1 : wl.cell? ⟨Lb, 1, none⟩ = some (.slice z.a z.x.flags.length z.c) := box_cell hbL 1
        have y2 : wl.cell? ⟨Lb, 2, none⟩ = some (.int .u64 z.x.mod) := box_cell hbL 2
        have y3 : wl.cell? ⟨Lb, 3, none⟩ = some (.string z.x.hash) := box_cell hbL 3
        have y4 : wl.cell? ⟨Lb, 4, none⟩ = some (.int .u64 z.x.size) := box_cell hbL 4
        have x0 : wl.cell? ⟨MB, 0, none⟩ = some (.string nm) := box_cell hbB 0
        have x1 : wl.cell? ⟨MB, 1, none⟩ = some (.int .u64 va) := box_cell hbB 1
        have x2 : wl.cell? ⟨MB, 2, none⟩ = some (.int .u64 nx) := box_cell hbB 2
        have x3 : wl.cell? ⟨MB, 3, none⟩ = some (.int .u64 hg) := box_cell hbB 3
        have x4 : wl.cell? ⟨MB, 4, none⟩ = some (.slice (some ⟨b, bo, none⟩) rows.length xc) := box_cell hbB 4
        go_cut [112] (fun v112 wx => v112 = .bool ((decide ((z.x.uid : Int) ≤ (last : Int))) || (decide ((nx : Int) ≤ (z.x.uid : Int))) || (!rightB z.x.flags) || (((z.x.mod : Int) == 0)) || (decide ((hg : Int) < (z.x.mod : Int))) || (((z.x.hash.size : Int) != 32)) || (decide ((4096 : Int) < (z.x.size : Int)))) ∧ Hid (Zoo W wx [boxT Lb [.int .u64 z.x.uid, .slice z.a z.x.flags.length z.c, .int .u64 z.x.mod, .string z.x.hash, .int .u64 z.x.size].toArray 66, boxT MB [.string nm, .int .u64 va, .int .u64 nx, .int .u64 hg, .slice (some ⟨b, bo, none⟩) rows.length xc].toArray 28]))
        case first =>
          cases l1 : decide ((z.x.uid : Int) ≤ (last : Int)) with
          | true =>
            have l1' := of_decide_eq_true l1
            replace l1 := Lib.hid l1
            go_wp2_with fail
            go_meet
            case rel => exact ⟨by simp only [l1.out, Bool.or_false, Bool.or_true, Bool.false_or, Bool.true_or], hz3⟩
          | false =>
            have l1'' : decide (z.x.uid ≤ last) = false := decide_eq_false (by have h := of_decide_eq_false l1; omega)
            cases l2 : decide ((nx : Int) ≤ (z.x.uid : Int)) with
            | true =>
              have l2' := of_decide_eq_true l2
              replace l2 := Lib.hid l2
              go_wp2_with fail
              go_meet
              case rel => exact ⟨by simp only [l1, l2.out, Bool.or_false, Bool.or_true, Bool.false_or, Bool.true_or], hz3⟩
            | false =>
              have l2'' : decide (nx ≤ z.x.uid) = false := decide_eq_false (by have h := of_decide_eq_false l2; omega)
              go_wp2_with fail
              refine hright.out.mono ?_
              rintro e w5 ⟨rfl, hb5⟩
              have hz4 := hz3.out.below hb5.out
              clear y0 y1 y2 y3 y4 x0 x1 x2 x3 x4 hbL hbB
              obtain ⟨hbL, -⟩ := hz4.box 0 rfl
              obtain ⟨hbB, -⟩ := hz4.box 1 rfl
              have y0 : w5.cell? ⟨Lb, 0, none⟩ = some (.int .u64 z.x.uid) := box_cell hbL 0
              have y1 : w5.cell? ⟨Lb, 1, none⟩ = some (.slice z.a z.x.flags.length z.c) := box_cell hbL 1
              have y2 : w5.cell? ⟨Lb, 2, none⟩ = some (.int .u64 z.x.mod) := box_cell hbL 2
              have y3 : w5.cell? ⟨Lb, 3, none⟩ = some (.string z.x.hash) := box_cell hbL 3
              have y4 : w5.cell? ⟨Lb, 4, none⟩ = some (.int .u64 z.x.size) := box_cell hbL 4
              have x0 : w5.cell? ⟨MB, 0, none⟩ = some (.string nm) := box_cell hbB 0
              have x1 : w5.cell? ⟨MB, 1, none⟩ = some (.int .u64 va) := box_cell hbB 1
              have x2 : w5.cell? ⟨MB, 2, none⟩ = some (.int .u64 nx) := box_cell hbB 2
              have x3 : w5.cell? ⟨MB, 3, none⟩ = some (.int .u64 hg) := box_cell hbB 3
              have x4 : w5.cell? ⟨MB, 4, none⟩ = some (.slice (some ⟨b, bo, none⟩) rows.length xc) := box_cell hbB 4
              replace hz4 := Lib.hid hz4
              clear hright hbL hbB
              cases l3 : !rightB z.x.flags with
              | true =>
                go_wp2_with fail
                go_meet
                case rel => exact ⟨by simp only [l1, l2, l3, Bool.or_false, Bool.or_true, Bool.false_or, Bool.true_or], hz4⟩
              | false =>
                cases l4 : ((z.x.mod : Int) == 0) with
                | true =>
                  go_wp2_with fail
                  go_meet
                  case rel => exact ⟨by simp only [l1, l2, l3, l4, Bool.or_false, Bool.or_true, Bool.false_or, Bool.true_or], hz4⟩
                | false =>
                  cases l5 : decide ((hg : Int) < (z.x.mod : Int)) with
                  | true =>
                    have l5' := of_decide_eq_true l5
                    replace l5 := Lib.hid l5
                    go_wp2_with fail
                    go_meet
                    case rel => exact ⟨by simp only [l1, l2, l3, l4, l5.out, Bool.or_false, Bool.or_true, Bool.false_or, Bool.true_or], hz4⟩
                  | false =>
                    have l5'' : decide (hg < z.x.mod) = false := decide_eq_false (by have h := of_decide_eq_false l5; omega)
                    cases l6 : ((z.x.hash.size : Int) != 32) with
                    | true =>
                      go_wp2_with fail
                      go_meet
                      case rel => exact ⟨by simp only [l1, l2, l3, l4, l5, l6, Bool.or_false, Bool.or_true, Bool.false_or, Bool.true_or], hz4⟩
                    | false =>
                      cases l7 : decide ((4096 : Int) < (z.x.size : Int)) with
                      | true =>
                        have l7' := of_decide_eq_true l7
                        replace l7 := Lib.hid l7
                        go_wp2_with fail
                        go_meet
                        case rel => exact ⟨by simp only [l1, l2, l3, l4, l5, l6, l7.out, Bool.or_false, Bool.or_true, Bool.false_or, Bool.true_or], hz4⟩
                      | false =>
                        go_wp2_with fail
                        go_meet
                        case rel => exact ⟨by simp only [l1, l2, l3, l4, l5, l6, l7, Bool.or_false, Bool.or_true, Bool.false_or, Bool.true_or], hz4⟩
        case rest =>
        clear hz3 y0 y1 y2 y3 y4 x0 x1 x2 x3 x4 hright
        obtain ⟨rfl, hz3⟩ := hcut
        obtain ⟨B, hB⟩ : ∃ B, ((decide ((z.x.uid : Int) ≤ (last : Int))) || (decide ((nx : Int) ≤ (z.x.uid : Int))) || (!rightB z.x.flags) || (((z.x.mod : Int) == 0)) || (decide ((hg : Int) < (z.x.mod : Int))) || (((z.x.hash.size : Int) != 32)) || (decide ((4096 : Int) < (z.x.size : Int)))) = B := ⟨_, rfl⟩
        rw [hB]
        cases B with
        | true =>
          have hno : Hid (false = true ↔ Pp) := Lib.hid (by
            rw [← hP.out]
            refine Iff.intro (fun h => by cases h) (fun h => ?_)
            obtain ⟨h1, h2⟩ := hneed.out h
            have l1 : decide ((z.x.uid : Int) ≤ (last : Int)) = false := decide_eq_false (by omega)
            have l2 : decide ((nx : Int) ≤ (z.x.uid : Int)) = false := decide_eq_false (by have := h1.u2; dsimp only at this; omega)
            have l3 : (!rightB z.x.flags) = false := by rw [h1.fl]; rfl
            have l4 : ((z.x.mod : Int) == 0) = false := beq_eq_false_iff_ne.2 (by have := h1.m1; omega)
            have l5 : decide ((hg : Int) < (z.x.mod : Int)) = false := decide_eq_false (by have := h1.m2; dsimp only at this; omega)
            have l6 : ((z.x.hash.size : Int) != 32) = false := by rw [h1.hs]; rfl
            have l7 : decide ((4096 : Int) < (z.x.size : Int)) = false := decide_eq_false (by have := h1.sz; omega)
            rw [l1, l2, l3, l4, l5, l6, l7] at hB
            exact absurd hB (by simp))
          have hbF := Lib.hid hz3.out.bel
          clear hB hz3 hup hlast hBx hstep hneed hnext
          go_wp2_with fail
          go_ret
          exact ⟨false, rfl, hno, hbF⟩
        | false =>
          simp only [Bool.or_eq_false_iff] at hB
          obtain ⟨⟨⟨⟨⟨⟨l1, l2⟩, l3⟩, l4⟩, l5⟩, l6⟩, l7⟩ := hB
          have hlp : LetP z.x ⟨nm, va, nx, hg, rows.map LtV.x⟩ ∧ last < z.x.uid := by
            have l1' := of_decide_eq_false l1
            have l2' := of_decide_eq_false l2
            have l4' := beq_eq_false_iff_ne.1 l4
            have l5' := of_decide_eq_false l5
            have l6' : z.x.hash.size = 32 := Int.ofNat.inj (show (z.x.hash.size : Int) = 32 by simpa [bne] using l6)
            have l7' := of_decide_eq_false l7
            exact ⟨⟨by omega, by dsimp only; omega, by simpa using l3, by omega, by dsimp only; omega, l6', by omega⟩, by omega⟩
          have hup2 := Lib.hid (hstep.out hlp.1 hlp.2)
          have hlast2 : Hid (j + 1 = 0 ∧ z.x.uid = 0 ∨ ∃ k, k < j + 1 ∧ (rows.map LtV.x)[k]?.map Lt.uid = some z.x.uid) := Lib.hid (.inr ⟨j, by omega, hnext.out⟩)
          obtain ⟨hbL, -⟩ := hz3.out.box 0 rfl
          have y0 : wc.cell? ⟨Lb, 0, none⟩ = some (.int .u64 z.x.uid) := box_cell hbL 0
          have hz4 := Lib.hid hz3.out.tail
          clear l1 l2 l3 l4 l5 l6 l7 hlp hbL hz3 hup hlast hstep hneed hnext
          go_wp2_with fail
          go_roundw
          case rel => exact ⟨j + 1, z.x.uid, by go_num, rfl, by omega, hup2, hlast2, hz4⟩
          case measure => simp [intOf] <;> omega
      · have hj1 : (rows.length : Int) ≤ (j : Int) := by omega
        have hj2 : ¬ ((j : Int) < (rows.length : Int)) := by omega
        have hyes : Hid Pp := Lib.hid (by
          rw [← hP.out]
          have hje : j = (rows.map LtV.x).length := by rw [List.length_map]; omega
          have h1 := hup.out
          unfold UpTo at h1
          rw [hje, List.take_length] at h1
          exact hBx.out ⟨h1.1, h1.2.1⟩)
        have hbF := Lib.hid hz.out.bel
        clear hup hlast hBx hz
        go_wp2_with fail
        go_ret
        exact ⟨true, rfl, Lib.hid (Iff.intro (fun _ => hyes.out) (fun _ => rfl)), hbF⟩
end Go.Proofs.Ytcnebfmlelcliaa
namespace Go.Proofs.Ytcnebfmlelcliaa
set_option linter.unusedSimpArgs false
open Go.RowKit
attribute [local go_sem ↓] Go.wp_at_zero Go.wp_at_succ

def HomeRet (W : World) (hs : List Hm) (node : Int) (e : Ending) (w' : World) : Prop := e = .returned (.tuple #[.agg (hmCells ((hs.find? (fun x => x.node == node)).getD ⟨0, 0, 0⟩)).toArray, .bool (hs.find? (fun x => x.node == node)).isSome]) ∧ Hid (Below W.heap.size W w')
set_option maxRecDepth 100000 in
set_option maxHeartbeats 8000000 in
theorem refHome_any {W : World} (ab ah as_ : Option Addr) (nb cb ch ns cs nv nse sw : Nat) (hs : List Hm) (node : Int) (hh : HmsIn W (.slice ah hs.length ch) hs) (hl : hs.length ≤ 100000) :
    Calls Try.prog 61 #[mlVal (.slice ab nb cb) nv (.slice ah hs.length ch) (.slice as_ ns cs) nse sw, .int .i64 node] W (HomeRet W hs node) := by
  have hz1 := ((Zoo.nil W).newBox [.slice ab nb cb, .int .u64 nv, .slice ah hs.length ch, .slice as_ ns cs, .int .u64 nse, .int .u64 sw].toArray 47)
  generalize hMB : W.heap.size = MB at hz1
  generalize hWa : (W.alloc (.cells [.slice ab nb cb, .int .u64 nv, .slice ah hs.length ch, .slice as_ ns cs, .int .u64 nse, .int .u64 sw].toArray 47)) = Wa at hz1
  have hz2 := hz1.newBox hm0L.toArray 106
  unfold hm0L at hz2
  generalize hHB : Wa.heap.size = HB at hz2
  generalize hWb : (Wa.alloc (.cells [.int .i64 0, .int .u64 0, .int .u64 0].toArray 106)) = Wb at hz2
  have hh0 : Hid (∀ w', Below W.heap.size W w' → HmsIn w' (.slice ah hs.length ch) hs) := Lib.hid (fun w' h => Rd.below hh h)
  replace hz2 := Lib.hid hz2
  clear hh hz1
  unfold mlVal
  go_enter Try.func61, Try.ntmps61
  go_wp2_with fail
  clear hMB hWa hHB hWb
  go_loopw [6] (fun v6 wr => ∃ j : Nat, v6 = .int .i64 j ∧ j ≤ hs.length ∧ Hid (∀ k (h : k < hs.length), k < j → (hs[k].node == node) = false) ∧ wr = Wb) (fun v6 _ => hs.length - (intOf v6).toNat)
  case atStart => exact ⟨0, rfl, Nat.zero_le _, Lib.hid (fun k h hk => by omega), rfl⟩
  case round =>
    obtain ⟨j, rfl, hj, hno, rfl⟩ := hrel
    obtain ⟨hbM, -⟩ := hz2.out.box 1 rfl
    obtain ⟨hbH, -⟩ := hz2.out.box 0 rfl
    have x2 : wr.cell? ⟨MB, 2, none⟩ = some (.slice ah hs.length ch) := box_cell hbM 2
    have h0 : wr.cell? ⟨HB, 0, none⟩ = some (.int .i64 0) := box_cell hbH 0
    have h1 : wr.cell? ⟨HB, 1, none⟩ = some (.int .u64 0) := box_cell hbH 1
    have h2 : wr.cell? ⟨HB, 2, none⟩ = some (.int .u64 0) := box_cell hbH 2
    have f0 := box_free hbH 0
    have f1 := box_free hbH 1
    have f2 := box_free hbH 2
    clear hbM hbH
    by_cases hlt : j < hs.length
    · have hin := hh0.out wr hz2.out.bel
      obtain ⟨b, bo, cap, hv, -, hblt, hcells⟩ := hmT.rd_cells hin hlt
      injection hv with hv1 hv2 hv3
      subst hv1 hv3
      obtain ⟨x, hx⟩ : ∃ x, hs[j] = x := ⟨_, rfl⟩
      rw [hx] at hcells
      have r0 : wr.cell? ⟨b, bo + (j * 3 + 0), none⟩ = some (.int .i64 x.node) := hcells 0 _ rfl
      have r1 : wr.cell? ⟨b, bo + (j * 3 + 1), none⟩ = some (.int .u64 x.life) := hcells 1 _ rfl
      have r2 : wr.cell? ⟨b, bo + (j * 3 + 2), none⟩ = some (.int .u64 x.try_) := hcells 2 _ rfl
      rw [← Nat.add_assoc] at r0 r1 r2
      rw [Nat.add_zero] at r0
      have hj0 : (0 : Int) ≤ (j : Int) := by omega
      have hj1 : (j : Int) < (hs.length : Int) := by omega
      replace hx := Lib.hid hx
      clear hcells hin
      cases hq : (x.node == node) with
      | true =>
        have hf : Hid (hs.find? (fun x => x.node == node) = some x) := Lib.hid (by
          rw [List.find?_eq_some_iff_getElem]
          exact ⟨hq, j, hlt, hx.out, fun k hk => by rw [hno.out k (by omega) hk]; rfl⟩)
        have hz4 := ((hz2.out.setBox 0 rfl 0 (.int .i64 x.node)).setBox 0 rfl 1 (.int .u64 x.life)).setBox 0 rfl 2 (.int .u64 x.try_)
        have hbF := Lib.hid (hz4.box 0 rfl).1
        have hbel := Lib.hid hz4.bel
        clear hno hz4 hz2
        go_wp2_with fail
        refine bodyPost_ret (results_cell_tmp_row rfl _ _ HB (hmCells x) rfl hbF.out Try.isAgg106 Try.sizeOf106) rfl ?_
        exact ⟨by rw [hf.out]; rfl, hbel⟩
      | false =>
        have hno2 : Hid (∀ k (h : k < hs.length), k < j + 1 → (hs[k].node == node) = false) := Lib.hid (fun k h hk => by
          by_cases e : k = j
          · subst e; rw [hx.out]; exact hq
          · exact hno.out k h (by omega))
        clear hno
        go_wp2_with fail
        go_roundw
        case rel => exact ⟨j + 1, by go_num, by omega, hno2, trivial⟩
        case measure => simp [intOf] <;> omega
    · have hj1 : (hs.length : Int) ≤ (j : Int) := by omega
      have hj2 : ¬ ((j : Int) < (hs.length : Int)) := by omega
      have hf : Hid (hs.find? (fun x => x.node == node) = none) := Lib.hid (by
        rw [List.find?_eq_none]
        intro x hx
        obtain ⟨k, hk, rfl⟩ := List.mem_iff_getElem.1 hx
        rw [hno.out k hk (by omega)]; simp)
      have hz4 := ((hz2.out.setBox 0 rfl 0 (.int .i64 0)).setBox 0 rfl 1 (.int .u64 0)).setBox 0 rfl 2 (.int .u64 0)
      have hbF := Lib.hid (hz4.box 0 rfl).1
      have hbel := Lib.hid hz4.bel
      clear hno hz4 hz2
      go_wp2_with fail
      refine bodyPost_ret (results_cell_tmp_row rfl _ _ HB (hmCells ⟨0, 0, 0⟩) rfl hbF.out Try.isAgg106 Try.sizeOf106) rfl ?_
      exact ⟨by rw [hf.out]; rfl, hbel⟩
end Go.Proofs.Ytcnebfmlelcliaa
