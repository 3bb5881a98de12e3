/- IndexFunc and DeleteFunc at seats and letters, whatever the closure has captured: walked. seqset.Has, of the program and of the document: walked. -/
import Derived.Test.YtdobbfjmlnlieaaGreatB03
import Derived.Test.YtdobbfjmlnlieaaGreatB02
import Derived.Test.YtdobbfjmlnlieaaGreatChecked
import Derived.RangeFuncBox
import Derived.Laws.EntriesVeiled
import Derived.Lib.MinMax
import Derived.BigQuiet
import Derived.Deep.QuietTactic
namespace Go.Proofs.YtdobbfjmlnlieaaGreat
set_option linter.unusedSimpArgs false
open Go.RowKit

/-- what a closure says of the elements of a row, wherever the row's memory stands -/
def SaysZ {α : Type} (R : RT α) (l : List α) (p : α → Bool) (L : List Th) (W0 : World) (f : FuncId) (caps : Array Value) (v : Value) : Prop :=
  ∀ x ∈ l, ∀ (W2 : World) (l2 : List α), Zoo W0 W2 (R.row v l2 :: L) → Calls Tryz.prog f (#[.agg (R.enc x).toArray] ++ caps) W2 fun e w' => e = .returned (.bool (p x)) ∧ Hid (Below W2.heap.size W2 w')
set_option maxRecDepth 100000 in
set_option maxHeartbeats 4000000 in
theorem endFind_any {W0 W : World} {L : List Th} (v : Value) (l : List St) (p : St → Bool) (c0 : Value) (hlen : l.length ≤ 100000) (hz : Zoo W0 W (stT.row v l :: L)) (hs : SaysZ stT l p L W0 81 #[c0] v) :
    Calls Tryz.prog 98 #[v, .func (.func 81) #[] #[c0]] W fun e w' => ∃ r : Int, e = .returned (.int .i64 r) ∧ Hid (r = idxI p l) ∧ Hid (Below W.heap.size W w') := by
  obtain ⟨ao, cap, hv⟩ := (hz.own 0 rfl).len
  subst hv
  replace hz := Lib.hid hz
  replace hs := Lib.hid hs
  go_enter Tryz.func98, Tryz.ntmps98
  go_wp2_with fail
  go_loopw [8] (fun v8 wr => ∃ i : Nat, v8 = .int .i64 i ∧ i ≤ l.length ∧ Hid (∀ k (_ : k < i) (h2 : k < l.length), p l[k] = false) ∧ Hid (Below W.heap.size W wr)) (fun v8 _ => l.length - (intOf v8).toNat)
  case atStart => exact ⟨0, rfl, Nat.zero_le _, Lib.hid (fun k hk => by omega), Lib.hid (Below.refl _ _)⟩
  case round =>
    obtain ⟨i, rfl, hi, hno, hb⟩ := hrel
    by_cases hlt : i < l.length
    · obtain ⟨g, cap', hv, -, -, hcells⟩ := ((hz.out.below hb.out).own 0 rfl).cells hlt
      injection hv with hv1 hv2 hv3
      subst hv1 hv3
      obtain ⟨x, hx⟩ : ∃ x, l[i] = x := ⟨_, rfl⟩
      have r0 : wr.cell? ⟨g, i * 5, none⟩ = some (.int .u64 x.session) := by have := hcells 0 (by decide); rw [hx] at this; exact this
      have r1 : wr.cell? ⟨g, i * 5 + 1, none⟩ = some (.int .u64 x.last) := by have := hcells 1 (by decide); rw [hx] at this; exact this
      have r2 : wr.cell? ⟨g, i * 5 + 2, none⟩ = some (.int .i64 x.node) := by have := hcells 2 (by decide); rw [hx] at this; exact this
      have r3 : wr.cell? ⟨g, i * 5 + 3, none⟩ = some (.int .u64 x.life) := by have := hcells 3 (by decide); rw [hx] at this; exact this
      have r4 : wr.cell? ⟨g, i * 5 + 4, none⟩ = some (.int .u64 x.try_) := by have := hcells 4 (by decide); rw [hx] at this; exact this
      have hcall := hs.out x (by rw [← hx]; exact List.getElem_mem hlt) wr l (hz.out.below hb.out)
      replace hcall : Calls Tryz.prog 81 #[.agg #[.int .u64 x.session, .int .u64 x.last, .int .i64 x.node, .int .u64 x.life, .int .u64 x.try_], c0] wr fun e w' => e = .returned (.bool (p x)) ∧ Hid (Below wr.heap.size wr w') := hcall
      have hl1 : (i : Int) < (l.length : Int) := by omega
      cases hq : p x with
      | true =>
        have hfound := Lib.hid (idxI_some hlt (by rw [hx]; exact hq) (fun k hk => hno.out k hk (by omega)) : idxI p l = (i : Int))
        rw [hq] at hcall
        replace hcall := Lib.hid hcall
        replace hx := Lib.hid hx
        clear hcells hq hno
        go_wp2_with fail
        refine hcall.out.mono ?_
        rintro e w1 ⟨rfl, hb1⟩
        have hB := Lib.hid (hb.out.trans (hb1.out.mono hb.out.size))
        clear hcall hb1
        go_wp2_with fail
        go_ret
        exact ⟨_, rfl, Lib.hid hfound.out.symm, hB⟩
      | false =>
        have hno2 : Hid (∀ k (_ : k < i + 1) (h2 : k < l.length), p l[k] = false) := Lib.hid (fun k hk h2 => by
          by_cases e : k = i
          · subst e; rw [hx]; exact hq
          · exact hno.out k (by omega) h2)
        rw [hq] at hcall
        replace hcall := Lib.hid hcall
        replace hx := Lib.hid hx
        clear hcells hq hno
        go_wp2_with fail
        refine hcall.out.mono ?_
        rintro e w1 ⟨rfl, hb1⟩
        have hB := Lib.hid (hb.out.trans (hb1.out.mono hb.out.size))
        clear hcall hb1
        go_wp2_with fail
        go_roundw
        case rel => exact ⟨i + 1, by go_num, by omega, hno2, hB⟩
        case measure => simp [intOf] <;> omega
    · have hnone := Lib.hid (idxI_none (fun k hk => hno.out k (by omega) hk) : idxI p l = -1)
      have hl1 : (l.length : Int) ≤ (i : Int) := by omega
      go_wp2_with fail
      go_ret
      exact ⟨_, rfl, Lib.hid hnone.out.symm, hb⟩
set_option maxRecDepth 100000 in
set_option maxHeartbeats 8000000 in
theorem endDel_any {W0 W : World} {L : List Th} (v : Value) (l : List St) (p : St → Bool) (c0 : Value) (hlen : l.length ≤ 100000) (hz : Zoo W0 W (stT.row v l :: L)) (hs : SaysZ stT l p L W0 81 #[c0] v) :
    Calls Tryz.prog 77 #[v, .func (.func 81) #[] #[c0]] W fun e w' => ∃ v', e = .returned v' ∧ Hid (Zoo W0 w' (stT.row v' (l.filter (fun x => !p x)) :: L)) := by
  have hfind := Lib.hid (endFind_any v l p c0 hlen hz hs)
  obtain ⟨ao, cap, hv⟩ := (hz.own 0 rfl).len
  subst hv
  replace hz := Lib.hid hz
  replace hs := Lib.hid hs
  go_enter Tryz.func77, Tryz.ntmps77
  go_wp2_with fail
  refine hfind.out.mono ?_
  rintro e w1 ⟨r, rfl, hr, hb1⟩
  have hz1 := Lib.hid (hz.out.below hb1.out)
  clear hfind hz hb1
  rcases idxI_cases p l with ⟨h1, h2⟩ | ⟨i0, hi0, h1, hp0, hno⟩
  · have hrr : r = -1 := hr.out.trans h1
    subst hrr
    replace h2 := Lib.hid h2
    clear h1 hr
    go_wp2_with fail
    go_ret
    exact ⟨_, rfl, Lib.hid (by rw [h2.out]; exact hz1.out)⟩
  · have hrr : r = (i0 : Int) := hr.out.trans h1
    subst hrr
    have hk0 := Lib.hid (Kept.start hi0 hp0 hno)
    clear h1 hr hp0 hno
    have hne : ((i0 : Int) == -1) = false := by simp
    go_wp2_with fail
    go_loopw [5, 6, 7] (fun v5 v6 _ wr => ∃ (i j : Nat) (cur : List St), v5 = .int .i64 i ∧ v6 = .int .i64 j ∧ i < j ∧ j ≤ l.length ∧ Hid (Kept p l cur i j) ∧ Hid (Zoo W0 wr (stT.row (.slice ao l.length cap) cur :: L))) (fun _ v6 _ _ => l.length - (intOf v6).toNat)
    case atStart => exact ⟨i0, i0 + 1, l, rfl, by go_num, by omega, by omega, hk0, hz1⟩
    case round =>
      clear hk0 hz1 hne
      obtain ⟨i, j, cur, rfl, rfl, hij, hjl, hk, hz⟩ := hrel
      by_cases hlt : j < l.length
      · obtain ⟨g, cap', hv, -, hg, hcells⟩ := (hz.out.own 0 rfl).cells (j := j) (by rw [hk.out.len]; exact hlt)
        rw [hk.out.len] at hv
        injection hv with hv1 hv2 hv3
        subst hv1 hv3
        obtain ⟨x, hx⟩ : ∃ x, l[j] = x := ⟨_, rfl⟩
        have hget := hk.out.get hlt
        rw [hx] at hget
        have r0 : wr.cell? ⟨g, j * 5, none⟩ = some (.int .u64 x.session) := by have := hcells 0 (by decide); rw [hget] at this; exact this
        have r1 : wr.cell? ⟨g, j * 5 + 1, none⟩ = some (.int .u64 x.last) := by have := hcells 1 (by decide); rw [hget] at this; exact this
        have r2 : wr.cell? ⟨g, j * 5 + 2, none⟩ = some (.int .i64 x.node) := by have := hcells 2 (by decide); rw [hget] at this; exact this
        have r3 : wr.cell? ⟨g, j * 5 + 3, none⟩ = some (.int .u64 x.life) := by have := hcells 3 (by decide); rw [hget] at this; exact this
        have r4 : wr.cell? ⟨g, j * 5 + 4, none⟩ = some (.int .u64 x.try_) := by have := hcells 4 (by decide); rw [hget] at this; exact this
        have hzb := hz.out.newBox [.int .u64 x.session, .int .u64 x.last, .int .i64 x.node, .int .u64 x.life, .int .u64 x.try_].toArray 69
        have hcall := hs.out x (by rw [← hx]; exact List.getElem_mem hlt) _ cur hzb.tail
        replace hcall : Calls Tryz.prog 81 #[.agg #[.int .u64 x.session, .int .u64 x.last, .int .i64 x.node, .int .u64 x.life, .int .u64 x.try_], c0] (wr.alloc (.cells #[.int .u64 x.session, .int .u64 x.last, .int .i64 x.node, .int .u64 x.life, .int .u64 x.try_] 69)) fun e w' => e = .returned (.bool (p x)) ∧ Hid (Below (wr.alloc (.cells #[.int .u64 x.session, .int .u64 x.last, .int .i64 x.node, .int .u64 x.life, .int .u64 x.try_] 69)).heap.size (wr.alloc (.cells #[.int .u64 x.session, .int .u64 x.last, .int .i64 x.node, .int .u64 x.life, .int .u64 x.try_] 69)) w') := hcall
        have hl1 : (j : Int) < (l.length : Int) := by omega
        replace hcall := Lib.hid hcall
        replace hzb := Lib.hid hzb
        replace hx := Lib.hid hx
        replace hget := Lib.hid hget
        clear hcells
        go_wp2_with fail
        refine hcall.out.mono ?_
        rintro e w1 ⟨rfl, hb1⟩
        have hz2 := hzb.out.below hb1.out
        obtain ⟨hbx, -⟩ := hz2.box 0 rfl
        generalize hB : wr.heap.size = B at hbx hz2 ⊢
        have b0 : w1.cell? ⟨B, 0, none⟩ = some (.int .u64 x.session) := box_cell hbx 0
        have b1 : w1.cell? ⟨B, 1, none⟩ = some (.int .u64 x.last) := box_cell hbx 1
        have b2 : w1.cell? ⟨B, 2, none⟩ = some (.int .i64 x.node) := box_cell hbx 2
        have b3 : w1.cell? ⟨B, 3, none⟩ = some (.int .u64 x.life) := box_cell hbx 3
        have b4 : w1.cell? ⟨B, 4, none⟩ = some (.int .u64 x.try_) := box_cell hbx 4
        have hkj := hk.out
        cases hq : p x with
        | true =>
          have hk2 := Lib.hid (hkj.skip hlt (by rw [hx.out]; exact hq))
          have hz3 := Lib.hid hz2.tail
          clear hcall hb1 hzb hz2 hbx hkj hq hk hz hB r0 r1 r2 r3 r4 hx hget
          go_wp2_with fail
          go_roundw
          case rel => exact ⟨i, j + 1, cur, rfl, by go_num, by omega, by omega, hk2, hz3⟩
          case measure => simp [intOf] <;> omega
        | false =>
          have hk2 := Lib.hid (hkj.keep hlt (by rw [hx.out]; exact hq))
          rw [hx.out] at hk2
          obtain ⟨g', cap', hv, -, hg2, hcl, hfr, hz3⟩ := hz2.put5 1 rfl rfl i (by rw [hkj.len]; omega) x (.int .u64 x.session) (.int .u64 x.last) (.int .i64 x.node) (.int .u64 x.life) (.int .u64 x.try_) rfl
          rw [hkj.len] at hv
          injection hv with e1 e2 e3
          injection e1 with e1
          injection e1 with e1
          subst e1 e3
          have k0 := hcl 0 (by decide)
          have k1 := hcl 1 (by decide)
          have k2 := hcl 2 (by decide)
          have k3 := hcl 3 (by decide)
          have k4 := hcl 4 (by decide)
          generalize cur[i]'(by rw [hkj.len]; omega) = old at k0 k1 k2 k3 k4
          obtain ⟨o0, o1, o2, o3, o4, ho⟩ : ∃ o0 o1 o2 o3 o4, (stT.enc old) = [o0, o1, o2, o3, o4] := ⟨_, _, _, _, _, rfl⟩
          rw [ho] at k0 k1 k2 k3 k4
          replace k0 : w1.cell? ⟨g, i * 5, none⟩ = some o0 := k0
          replace k1 : w1.cell? ⟨g, i * 5 + 1, none⟩ = some o1 := k1
          replace k2 : w1.cell? ⟨g, i * 5 + 2, none⟩ = some o2 := k2
          replace k3 : w1.cell? ⟨g, i * 5 + 3, none⟩ = some o3 := k3
          replace k4 : w1.cell? ⟨g, i * 5 + 4, none⟩ = some o4 := k4
          have f0 := hfr (i * 5)
          have f1 := hfr (i * 5 + 1)
          have f2 := hfr (i * 5 + 2)
          have f3 := hfr (i * 5 + 3)
          have f4 := hfr (i * 5 + 4)
          replace hz3 := Lib.hid hz3.tail
          have hil : (i : Int) < (l.length : Int) := by omega
          have hi2 : i < l.length := by omega
          clear hcall hb1 hzb hz2 hbx hkj hq hk hz hB r0 r1 r2 r3 r4 hx hget hcl hfr ho
          go_wp2_with fail
          go_roundw
          case rel => exact ⟨i + 1, j + 1, _, by go_num, by go_num, by omega, by omega, hk2, hz3⟩
          case measure => simp [intOf] <;> omega
      · obtain rfl : j = l.length := by omega
        have hl1 : (l.length : Int) ≤ (l.length : Int) := by omega
        obtain ⟨g, cap', hv, hcc, hcl, hz2⟩ := hz.out.clear 0 rfl (⟨0, 0, 0, 0, 0⟩ : St) rfl i (l.length - i) (by omega) (by have := hk.out.len; omega)
        rw [hk.out.len] at hv hcc
        injection hv with e1 e2 e3
        subst e1 e3
        rw [show stT.K = 5 from rfl] at hz2 hcl
        have hall := hk.out.all
        replace hz2 : Hid (Zoo W0 (wr.setCells g (i * 5) (stT.cells (List.replicate (l.length - i) (⟨0, 0, 0, 0, 0⟩ : St)))) (stT.row (.slice (some ⟨g, 0, none⟩) i cap) (l.filter (fun x => !p x)) :: L)) := Lib.hid (by rw [← hall]; exact hz2)
        generalize wr.setCells g (i * 5) (stT.cells (List.replicate (l.length - i) (⟨0, 0, 0, 0, 0⟩ : St))) = wc at hcl hz2
        have hcl2 : ∀ ty, (Builtin.clear_ #[25] ty #[.slice (some ⟨g, i * 5, none⟩) (l.length - i) (cap - i)]).run Tryz.prog wr = .ok (.tuple #[]) wc := fun ty => hcl _ ty
        have hic : i < l.length := hij
        clear hk hz hall hcl
        go_wp2_with fail
        go_ret
        exact ⟨_, rfl, hz2⟩
set_option maxRecDepth 100000 in
set_option maxHeartbeats 4000000 in
theorem openDFind_any {W0 W : World} {L : List Th} (v : Value) (l : List St) (p : St → Bool) (c0 : Value) (hlen : l.length ≤ 100000) (hz : Zoo W0 W (stT.row v l :: L)) (hs : SaysZ stT l p L W0 79 #[c0] v) :
    Calls Tryz.prog 98 #[v, .func (.func 79) #[] #[c0]] W fun e w' => ∃ r : Int, e = .returned (.int .i64 r) ∧ Hid (r = idxI p l) ∧ Hid (Below W.heap.size W w') := by
  obtain ⟨ao, cap, hv⟩ := (hz.own 0 rfl).len
  subst hv
  replace hz := Lib.hid hz
  replace hs := Lib.hid hs
  go_enter Tryz.func98, Tryz.ntmps98
  go_wp2_with fail
  go_loopw [8] (fun v8 wr => ∃ i : Nat, v8 = .int .i64 i ∧ i ≤ l.length ∧ Hid (∀ k (_ : k < i) (h2 : k < l.length), p l[k] = false) ∧ Hid (Below W.heap.size W wr)) (fun v8 _ => l.length - (intOf v8).toNat)
  case atStart => exact ⟨0, rfl, Nat.zero_le _, Lib.hid (fun k hk => by omega), Lib.hid (Below.refl _ _)⟩
  case round =>
    obtain ⟨i, rfl, hi, hno, hb⟩ := hrel
    by_cases hlt : i < l.length
    · obtain ⟨g, cap', hv, -, -, hcells⟩ := ((hz.out.below hb.out).own 0 rfl).cells hlt
      injection hv with hv1 hv2 hv3
      subst hv1 hv3
      obtain ⟨x, hx⟩ : ∃ x, l[i] = x := ⟨_, rfl⟩
      have r0 : wr.cell? ⟨g, i * 5, none⟩ = some (.int .u64 x.session) := by have := hcells 0 (by decide); rw [hx] at this; exact this
      have r1 : wr.cell? ⟨g, i * 5 + 1, none⟩ = some (.int .u64 x.last) := by have := hcells 1 (by decide); rw [hx] at this; exact this
      have r2 : wr.cell? ⟨g, i * 5 + 2, none⟩ = some (.int .i64 x.node) := by have := hcells 2 (by decide); rw [hx] at this; exact this
      have r3 : wr.cell? ⟨g, i * 5 + 3, none⟩ = some (.int .u64 x.life) := by have := hcells 3 (by decide); rw [hx] at this; exact this
      have r4 : wr.cell? ⟨g, i * 5 + 4, none⟩ = some (.int .u64 x.try_) := by have := hcells 4 (by decide); rw [hx] at this; exact this
      have hcall := hs.out x (by rw [← hx]; exact List.getElem_mem hlt) wr l (hz.out.below hb.out)
      replace hcall : Calls Tryz.prog 79 #[.agg #[.int .u64 x.session, .int .u64 x.last, .int .i64 x.node, .int .u64 x.life, .int .u64 x.try_], c0] wr fun e w' => e = .returned (.bool (p x)) ∧ Hid (Below wr.heap.size wr w') := hcall
      have hl1 : (i : Int) < (l.length : Int) := by omega
      cases hq : p x with
      | true =>
        have hfound := Lib.hid (idxI_some hlt (by rw [hx]; exact hq) (fun k hk => hno.out k hk (by omega)) : idxI p l = (i : Int))
        rw [hq] at hcall
        replace hcall := Lib.hid hcall
        replace hx := Lib.hid hx
        clear hcells hq hno
        go_wp2_with fail
        refine hcall.out.mono ?_
        rintro e w1 ⟨rfl, hb1⟩
        have hB := Lib.hid (hb.out.trans (hb1.out.mono hb.out.size))
        clear hcall hb1
        go_wp2_with fail
        go_ret
        exact ⟨_, rfl, Lib.hid hfound.out.symm, hB⟩
      | false =>
        have hno2 : Hid (∀ k (_ : k < i + 1) (h2 : k < l.length), p l[k] = false) := Lib.hid (fun k hk h2 => by
          by_cases e : k = i
          · subst e; rw [hx]; exact hq
          · exact hno.out k (by omega) h2)
        rw [hq] at hcall
        replace hcall := Lib.hid hcall
        replace hx := Lib.hid hx
        clear hcells hq hno
        go_wp2_with fail
        refine hcall.out.mono ?_
        rintro e w1 ⟨rfl, hb1⟩
        have hB := Lib.hid (hb.out.trans (hb1.out.mono hb.out.size))
        clear hcall hb1
        go_wp2_with fail
        go_roundw
        case rel => exact ⟨i + 1, by go_num, by omega, hno2, hB⟩
        case measure => simp [intOf] <;> omega
    · have hnone := Lib.hid (idxI_none (fun k hk => hno.out k (by omega) hk) : idxI p l = -1)
      have hl1 : (l.length : Int) ≤ (i : Int) := by omega
      go_wp2_with fail
      go_ret
      exact ⟨_, rfl, Lib.hid hnone.out.symm, hb⟩
set_option maxRecDepth 100000 in
set_option maxHeartbeats 8000000 in
theorem openDDel_any {W0 W : World} {L : List Th} (v : Value) (l : List St) (p : St → Bool) (c0 : Value) (hlen : l.length ≤ 100000) (hz : Zoo W0 W (stT.row v l :: L)) (hs : SaysZ stT l p L W0 79 #[c0] v) :
    Calls Tryz.prog 77 #[v, .func (.func 79) #[] #[c0]] W fun e w' => ∃ v', e = .returned v' ∧ Hid (Zoo W0 w' (stT.row v' (l.filter (fun x => !p x)) :: L)) := by
  have hfind := Lib.hid (openDFind_any v l p c0 hlen hz hs)
  obtain ⟨ao, cap, hv⟩ := (hz.own 0 rfl).len
  subst hv
  replace hz := Lib.hid hz
  replace hs := Lib.hid hs
  go_enter Tryz.func77, Tryz.ntmps77
  go_wp2_with fail
  refine hfind.out.mono ?_
  rintro e w1 ⟨r, rfl, hr, hb1⟩
  have hz1 := Lib.hid (hz.out.below hb1.out)
  clear hfind hz hb1
  rcases idxI_cases p l with ⟨h1, h2⟩ | ⟨i0, hi0, h1, hp0, hno⟩
  · have hrr : r = -1 := hr.out.trans h1
    subst hrr
    replace h2 := Lib.hid h2
    clear h1 hr
    go_wp2_with fail
    go_ret
    exact ⟨_, rfl, Lib.hid (by rw [h2.out]; exact hz1.out)⟩
  · have hrr : r = (i0 : Int) := hr.out.trans h1
    subst hrr
    have hk0 := Lib.hid (Kept.start hi0 hp0 hno)
    clear h1 hr hp0 hno
    have hne : ((i0 : Int) == -1) = false := by simp
    go_wp2_with fail
    go_loopw [5, 6, 7] (fun v5 v6 _ wr => ∃ (i j : Nat) (cur : List St), v5 = .int .i64 i ∧ v6 = .int .i64 j ∧ i < j ∧ j ≤ l.length ∧ Hid (Kept p l cur i j) ∧ Hid (Zoo W0 wr (stT.row (.slice ao l.length cap) cur :: L))) (fun _ v6 _ _ => l.length - (intOf v6).toNat)
    case atStart => exact ⟨i0, i0 + 1, l, rfl, by go_num, by omega, by omega, hk0, hz1⟩
    case round =>
      clear hk0 hz1 hne
      obtain ⟨i, j, cur, rfl, rfl, hij, hjl, hk, hz⟩ := hrel
      by_cases hlt : j < l.length
      · obtain ⟨g, cap', hv, -, hg, hcells⟩ := (hz.out.own 0 rfl).cells (j := j) (by rw [hk.out.len]; exact hlt)
        rw [hk.out.len] at hv
        injection hv with hv1 hv2 hv3
        subst hv1 hv3
        obtain ⟨x, hx⟩ : ∃ x, l[j] = x := ⟨_, rfl⟩
        have hget := hk.out.get hlt
        rw [hx] at hget
        have r0 : wr.cell? ⟨g, j * 5, none⟩ = some (.int .u64 x.session) := by have := hcells 0 (by decide); rw [hget] at this; exact this
        have r1 : wr.cell? ⟨g, j * 5 + 1, none⟩ = some (.int .u64 x.last) := by have := hcells 1 (by decide); rw [hget] at this; exact this
        have r2 : wr.cell? ⟨g, j * 5 + 2, none⟩ = some (.int .i64 x.node) := by have := hcells 2 (by decide); rw [hget] at this; exact this
        have r3 : wr.cell? ⟨g, j * 5 + 3, none⟩ = some (.int .u64 x.life) := by have := hcells 3 (by decide); rw [hget] at this; exact this
        have r4 : wr.cell? ⟨g, j * 5 + 4, none⟩ = some (.int .u64 x.try_) := by have := hcells 4 (by decide); rw [hget] at this; exact this
        have hzb := hz.out.newBox [.int .u64 x.session, .int .u64 x.last, .int .i64 x.node, .int .u64 x.life, .int .u64 x.try_].toArray 69
        have hcall := hs.out x (by rw [← hx]; exact List.getElem_mem hlt) _ cur hzb.tail
        replace hcall : Calls Tryz.prog 79 #[.agg #[.int .u64 x.session, .int .u64 x.last, .int .i64 x.node, .int .u64 x.life, .int .u64 x.try_], c0] (wr.alloc (.cells #[.int .u64 x.session, .int .u64 x.last, .int .i64 x.node, .int .u64 x.life, .int .u64 x.try_] 69)) fun e w' => e = .returned (.bool (p x)) ∧ Hid (Below (wr.alloc (.cells #[.int .u64 x.session, .int .u64 x.last, .int .i64 x.node, .int .u64 x.life, .int .u64 x.try_] 69)).heap.size (wr.alloc (.cells #[.int .u64 x.session, .int .u64 x.last, .int .i64 x.node, .int .u64 x.life, .int .u64 x.try_] 69)) w') := hcall
        have hl1 : (j : Int) < (l.length : Int) := by omega
        replace hcall := Lib.hid hcall
        replace hzb := Lib.hid hzb
        replace hx := Lib.hid hx
        replace hget := Lib.hid hget
        clear hcells
        go_wp2_with fail
        refine hcall.out.mono ?_
        rintro e w1 ⟨rfl, hb1⟩
        have hz2 := hzb.out.below hb1.out
        obtain ⟨hbx, -⟩ := hz2.box 0 rfl
        generalize hB : wr.heap.size = B at hbx hz2 ⊢
        have b0 : w1.cell? ⟨B, 0, none⟩ = some (.int .u64 x.session) := box_cell hbx 0
        have b1 : w1.cell? ⟨B, 1, none⟩ = some (.int .u64 x.last) := box_cell hbx 1
        have b2 : w1.cell? ⟨B, 2, none⟩ = some (.int .i64 x.node) := box_cell hbx 2
        have b3 : w1.cell? ⟨B, 3, none⟩ = some (.int .u64 x.life) := box_cell hbx 3
        have b4 : w1.cell? ⟨B, 4, none⟩ = some (.int .u64 x.try_) := box_cell hbx 4
        have hkj := hk.out
        cases hq : p x with
        | true =>
          have hk2 := Lib.hid (hkj.skip hlt (by rw [hx.out]; exact hq))
          have hz3 := Lib.hid hz2.tail
          clear hcall hb1 hzb hz2 hbx hkj hq hk hz hB r0 r1 r2 r3 r4 hx hget
          go_wp2_with fail
          go_roundw
          case rel => exact ⟨i, j + 1, cur, rfl, by go_num, by omega, by omega, hk2, hz3⟩
          case measure => simp [intOf] <;> omega
        | false =>
          have hk2 := Lib.hid (hkj.keep hlt (by rw [hx.out]; exact hq))
          rw [hx.out] at hk2
          obtain ⟨g', cap', hv, -, hg2, hcl, hfr, hz3⟩ := hz2.put5 1 rfl rfl i (by rw [hkj.len]; omega) x (.int .u64 x.session) (.int .u64 x.last) (.int .i64 x.node) (.int .u64 x.life) (.int .u64 x.try_) rfl
          rw [hkj.len] at hv
          injection hv with e1 e2 e3
          injection e1 with e1
          injection e1 with e1
          subst e1 e3
          have k0 := hcl 0 (by decide)
          have k1 := hcl 1 (by decide)
          have k2 := hcl 2 (by decide)
          have k3 := hcl 3 (by decide)
          have k4 := hcl 4 (by decide)
          generalize cur[i]'(by rw [hkj.len]; omega) = old at k0 k1 k2 k3 k4
          obtain ⟨o0, o1, o2, o3, o4, ho⟩ : ∃ o0 o1 o2 o3 o4, (stT.enc old) = [o0, o1, o2, o3, o4] := ⟨_, _, _, _, _, rfl⟩
          rw [ho] at k0 k1 k2 k3 k4
          replace k0 : w1.cell? ⟨g, i * 5, none⟩ = some o0 := k0
          replace k1 : w1.cell? ⟨g, i * 5 + 1, none⟩ = some o1 := k1
          replace k2 : w1.cell? ⟨g, i * 5 + 2, none⟩ = some o2 := k2
          replace k3 : w1.cell? ⟨g, i * 5 + 3, none⟩ = some o3 := k3
          replace k4 : w1.cell? ⟨g, i * 5 + 4, none⟩ = some o4 := k4
          have f0 := hfr (i * 5)
          have f1 := hfr (i * 5 + 1)
          have f2 := hfr (i * 5 + 2)
          have f3 := hfr (i * 5 + 3)
          have f4 := hfr (i * 5 + 4)
          replace hz3 := Lib.hid hz3.tail
          have hil : (i : Int) < (l.length : Int) := by omega
          have hi2 : i < l.length := by omega
          clear hcall hb1 hzb hz2 hbx hkj hq hk hz hB r0 r1 r2 r3 r4 hx hget hcl hfr ho
          go_wp2_with fail
          go_roundw
          case rel => exact ⟨i + 1, j + 1, _, by go_num, by go_num, by omega, by omega, hk2, hz3⟩
          case measure => simp [intOf] <;> omega
      · obtain rfl : j = l.length := by omega
        have hl1 : (l.length : Int) ≤ (l.length : Int) := by omega
        obtain ⟨g, cap', hv, hcc, hcl, hz2⟩ := hz.out.clear 0 rfl (⟨0, 0, 0, 0, 0⟩ : St) rfl i (l.length - i) (by omega) (by have := hk.out.len; omega)
        rw [hk.out.len] at hv hcc
        injection hv with e1 e2 e3
        subst e1 e3
        rw [show stT.K = 5 from rfl] at hz2 hcl
        have hall := hk.out.all
        replace hz2 : Hid (Zoo W0 (wr.setCells g (i * 5) (stT.cells (List.replicate (l.length - i) (⟨0, 0, 0, 0, 0⟩ : St)))) (stT.row (.slice (some ⟨g, 0, none⟩) i cap) (l.filter (fun x => !p x)) :: L)) := Lib.hid (by rw [← hall]; exact hz2)
        generalize wr.setCells g (i * 5) (stT.cells (List.replicate (l.length - i) (⟨0, 0, 0, 0, 0⟩ : St))) = wc at hcl hz2
        have hcl2 : ∀ ty, (Builtin.clear_ #[25] ty #[.slice (some ⟨g, i * 5, none⟩) (l.length - i) (cap - i)]).run Tryz.prog wr = .ok (.tuple #[]) wc := fun ty => hcl _ ty
        have hic : i < l.length := hij
        clear hk hz hall hcl
        go_wp2_with fail
        go_ret
        exact ⟨_, rfl, hz2⟩
set_option maxRecDepth 100000 in
set_option maxHeartbeats 4000000 in
theorem goesFind_any {W0 W : World} {L : List Th} (v : Value) (l : List LtV) (p : LtV → Bool) (c0 c1 : Value) (hlen : l.length ≤ 100000) (hz : Zoo W0 W (ltT.row v l :: L)) (hs : SaysZ ltT l p L W0 93 #[c0, c1] v) :
    Calls Tryz.prog 129 #[v, .func (.func 93) #[] #[c0, c1]] W fun e w' => ∃ r : Int, e = .returned (.int .i64 r) ∧ Hid (r = idxI p l) ∧ Hid (Below W.heap.size W w') := by
  obtain ⟨ao, cap, hv⟩ := (hz.own 0 rfl).len
  subst hv
  replace hz := Lib.hid hz
  replace hs := Lib.hid hs
  go_enter Tryz.func129, Tryz.ntmps129
  go_wp2_with fail
  go_loopw [8] (fun v8 wr => ∃ i : Nat, v8 = .int .i64 i ∧ i ≤ l.length ∧ Hid (∀ k (_ : k < i) (h2 : k < l.length), p l[k] = false) ∧ Hid (Below W.heap.size W wr)) (fun v8 _ => l.length - (intOf v8).toNat)
  case atStart => exact ⟨0, rfl, Nat.zero_le _, Lib.hid (fun k hk => by omega), Lib.hid (Below.refl _ _)⟩
  case round =>
    obtain ⟨i, rfl, hi, hno, hb⟩ := hrel
    by_cases hlt : i < l.length
    · obtain ⟨g, cap', hv, -, -, hcells⟩ := ((hz.out.below hb.out).own 0 rfl).cells hlt
      injection hv with hv1 hv2 hv3
      subst hv1 hv3
      obtain ⟨x, hx⟩ : ∃ x, l[i] = x := ⟨_, rfl⟩
      have r0 : wr.cell? ⟨g, i * 5, none⟩ = some (.int .u64 x.x.uid) := by have := hcells 0 (by decide); rw [hx] at this; exact this
      have r1 : wr.cell? ⟨g, i * 5 + 1, none⟩ = some (.slice x.a x.x.flags.length x.c) := by have := hcells 1 (by decide); rw [hx] at this; exact this
      have r2 : wr.cell? ⟨g, i * 5 + 2, none⟩ = some (.int .u64 x.x.mod) := by have := hcells 2 (by decide); rw [hx] at this; exact this
      have r3 : wr.cell? ⟨g, i * 5 + 3, none⟩ = some (.string x.x.hash) := by have := hcells 3 (by decide); rw [hx] at this; exact this
      have r4 : wr.cell? ⟨g, i * 5 + 4, none⟩ = some (.int .u64 x.x.size) := by have := hcells 4 (by decide); rw [hx] at this; exact this
      have hcall := hs.out x (by rw [← hx]; exact List.getElem_mem hlt) wr l (hz.out.below hb.out)
      replace hcall : Calls Tryz.prog 93 #[.agg #[.int .u64 x.x.uid, .slice x.a x.x.flags.length x.c, .int .u64 x.x.mod, .string x.x.hash, .int .u64 x.x.size], c0, c1] wr fun e w' => e = .returned (.bool (p x)) ∧ Hid (Below wr.heap.size wr w') := hcall
      have hl1 : (i : Int) < (l.length : Int) := by omega
      cases hq : p x with
      | true =>
        have hfound := Lib.hid (idxI_some hlt (by rw [hx]; exact hq) (fun k hk => hno.out k hk (by omega)) : idxI p l = (i : Int))
        rw [hq] at hcall
        replace hcall := Lib.hid hcall
        replace hx := Lib.hid hx
        clear hcells hq hno
        go_wp2_with fail
        refine hcall.out.mono ?_
        rintro e w1 ⟨rfl, hb1⟩
        have hB := Lib.hid (hb.out.trans (hb1.out.mono hb.out.size))
        clear hcall hb1
        go_wp2_with fail
        go_ret
        exact ⟨_, rfl, Lib.hid hfound.out.symm, hB⟩
      | false =>
        have hno2 : Hid (∀ k (_ : k < i + 1) (h2 : k < l.length), p l[k] = false) := Lib.hid (fun k hk h2 => by
          by_cases e : k = i
          · subst e; rw [hx]; exact hq
          · exact hno.out k (by omega) h2)
        rw [hq] at hcall
        replace hcall := Lib.hid hcall
        replace hx := Lib.hid hx
        clear hcells hq hno
        go_wp2_with fail
        refine hcall.out.mono ?_
        rintro e w1 ⟨rfl, hb1⟩
        have hB := Lib.hid (hb.out.trans (hb1.out.mono hb.out.size))
        clear hcall hb1
        go_wp2_with fail
        go_roundw
        case rel => exact ⟨i + 1, by go_num, by omega, hno2, hB⟩
        case measure => simp [intOf] <;> omega
    · have hnone := Lib.hid (idxI_none (fun k hk => hno.out k (by omega) hk) : idxI p l = -1)
      have hl1 : (l.length : Int) ≤ (i : Int) := by omega
      go_wp2_with fail
      go_ret
      exact ⟨_, rfl, Lib.hid hnone.out.symm, hb⟩
set_option maxRecDepth 100000 in
set_option maxHeartbeats 8000000 in
theorem goesDel_any {W0 W : World} {L : List Th} (v : Value) (l : List LtV) (p : LtV → Bool) (c0 c1 : Value) (hlen : l.length ≤ 100000) (hz : Zoo W0 W (ltT.row v l :: L)) (hs : SaysZ ltT l p L W0 93 #[c0, c1] v) :
    Calls Tryz.prog 95 #[v, .func (.func 93) #[] #[c0, c1]] W fun e w' => ∃ v', e = .returned v' ∧ Hid (Zoo W0 w' (ltT.row v' (l.filter (fun x => !p x)) :: L)) := by
  have hfind := Lib.hid (goesFind_any v l p c0 c1 hlen hz hs)
  obtain ⟨ao, cap, hv⟩ := (hz.own 0 rfl).len
  subst hv
  replace hz := Lib.hid hz
  replace hs := Lib.hid hs
  go_enter Tryz.func95, Tryz.ntmps95
  go_wp2_with fail
  refine hfind.out.mono ?_
  rintro e w1 ⟨r, rfl, hr, hb1⟩
  have hz1 := Lib.hid (hz.out.below hb1.out)
  clear hfind hz hb1
  rcases idxI_cases p l with ⟨h1, h2⟩ | ⟨i0, hi0, h1, hp0, hno⟩
  · have hrr : r = -1 := hr.out.trans h1
    subst hrr
    replace h2 := Lib.hid h2
    clear h1 hr
    go_wp2_with fail
    go_ret
    exact ⟨_, rfl, Lib.hid (by rw [h2.out]; exact hz1.out)⟩
  · have hrr : r = (i0 : Int) := hr.out.trans h1
    subst hrr
    have hk0 := Lib.hid (Kept.start hi0 hp0 hno)
    clear h1 hr hp0 hno
    have hne : ((i0 : Int) == -1) = false := by simp
    go_wp2_with fail
    go_loopw [5, 6, 7] (fun v5 v6 _ wr => ∃ (i j : Nat) (cur : List LtV), v5 = .int .i64 i ∧ v6 = .int .i64 j ∧ i < j ∧ j ≤ l.length ∧ Hid (Kept p l cur i j) ∧ Hid (Zoo W0 wr (ltT.row (.slice ao l.length cap) cur :: L))) (fun _ v6 _ _ => l.length - (intOf v6).toNat)
    case atStart => exact ⟨i0, i0 + 1, l, rfl, by go_num, by omega, by omega, hk0, hz1⟩
    case round =>
      clear hk0 hz1 hne
      obtain ⟨i, j, cur, rfl, rfl, hij, hjl, hk, hz⟩ := hrel
      by_cases hlt : j < l.length
      · obtain ⟨g, cap', hv, -, hg, hcells⟩ := (hz.out.own 0 rfl).cells (j := j) (by rw [hk.out.len]; exact hlt)
        rw [hk.out.len] at hv
        injection hv with hv1 hv2 hv3
        subst hv1 hv3
        obtain ⟨x, hx⟩ : ∃ x, l[j] = x := ⟨_, rfl⟩
        have hget := hk.out.get hlt
        rw [hx] at hget
        have r0 : wr.cell? ⟨g, j * 5, none⟩ = some (.int .u64 x.x.uid) := by have := hcells 0 (by decide); rw [hget] at this; exact this
        have r1 : wr.cell? ⟨g, j * 5 + 1, none⟩ = some (.slice x.a x.x.flags.length x.c) := by have := hcells 1 (by decide); rw [hget] at this; exact this
        have r2 : wr.cell? ⟨g, j * 5 + 2, none⟩ = some (.int .u64 x.x.mod) := by have := hcells 2 (by decide); rw [hget] at this; exact this
        have r3 : wr.cell? ⟨g, j * 5 + 3, none⟩ = some (.string x.x.hash) := by have := hcells 3 (by decide); rw [hget] at this; exact this
        have r4 : wr.cell? ⟨g, j * 5 + 4, none⟩ = some (.int .u64 x.x.size) := by have := hcells 4 (by decide); rw [hget] at this; exact this
        have hzb := hz.out.newBox [.int .u64 x.x.uid, .slice x.a x.x.flags.length x.c, .int .u64 x.x.mod, .string x.x.hash, .int .u64 x.x.size].toArray 50
        have hcall := hs.out x (by rw [← hx]; exact List.getElem_mem hlt) _ cur hzb.tail
        replace hcall : Calls Tryz.prog 93 #[.agg #[.int .u64 x.x.uid, .slice x.a x.x.flags.length x.c, .int .u64 x.x.mod, .string x.x.hash, .int .u64 x.x.size], c0, c1] (wr.alloc (.cells #[.int .u64 x.x.uid, .slice x.a x.x.flags.length x.c, .int .u64 x.x.mod, .string x.x.hash, .int .u64 x.x.size] 50)) fun e w' => e = .returned (.bool (p x)) ∧ Hid (Below (wr.alloc (.cells #[.int .u64 x.x.uid, .slice x.a x.x.flags.length x.c, .int .u64 x.x.mod, .string x.x.hash, .int .u64 x.x.size] 50)).heap.size (wr.alloc (.cells #[.int .u64 x.x.uid, .slice x.a x.x.flags.length x.c, .int .u64 x.x.mod, .string x.x.hash, .int .u64 x.x.size] 50)) w') := hcall
        have hl1 : (j : Int) < (l.length : Int) := by omega
        replace hcall := Lib.hid hcall
        replace hzb := Lib.hid hzb
        replace hx := Lib.hid hx
        replace hget := Lib.hid hget
        clear hcells
        go_wp2_with fail
        refine hcall.out.mono ?_
        rintro e w1 ⟨rfl, hb1⟩
        have hz2 := hzb.out.below hb1.out
        obtain ⟨hbx, -⟩ := hz2.box 0 rfl
        generalize hB : wr.heap.size = B at hbx hz2 ⊢
        have b0 : w1.cell? ⟨B, 0, none⟩ = some (.int .u64 x.x.uid) := box_cell hbx 0
        have b1 : w1.cell? ⟨B, 1, none⟩ = some (.slice x.a x.x.flags.length x.c) := box_cell hbx 1
        have b2 : w1.cell? ⟨B, 2, none⟩ = some (.int .u64 x.x.mod) := box_cell hbx 2
        have b3 : w1.cell? ⟨B, 3, none⟩ = some (.string x.x.hash) := box_cell hbx 3
        have b4 : w1.cell? ⟨B, 4, none⟩ = some (.int .u64 x.x.size) := box_cell hbx 4
        have hkj := hk.out
        cases hq : p x with
        | true =>
          have hk2 := Lib.hid (hkj.skip hlt (by rw [hx.out]; exact hq))
          have hz3 := Lib.hid hz2.tail
          clear hcall hb1 hzb hz2 hbx hkj hq hk hz hB r0 r1 r2 r3 r4 hx hget
          go_wp2_with fail
          go_roundw
          case rel => exact ⟨i, j + 1, cur, rfl, by go_num, by omega, by omega, hk2, hz3⟩
          case measure => simp [intOf] <;> omega
        | false =>
          have hk2 := Lib.hid (hkj.keep hlt (by rw [hx.out]; exact hq))
          rw [hx.out] at hk2
          obtain ⟨g', cap', hv, -, hg2, hcl, hfr, hz3⟩ := hz2.put5 1 rfl rfl i (by rw [hkj.len]; omega) x (.int .u64 x.x.uid) (.slice x.a x.x.flags.length x.c) (.int .u64 x.x.mod) (.string x.x.hash) (.int .u64 x.x.size) rfl
          rw [hkj.len] at hv
          injection hv with e1 e2 e3
          injection e1 with e1
          injection e1 with e1
          subst e1 e3
          have k0 := hcl 0 (by decide)
          have k1 := hcl 1 (by decide)
          have k2 := hcl 2 (by decide)
          have k3 := hcl 3 (by decide)
          have k4 := hcl 4 (by decide)
          generalize cur[i]'(by rw [hkj.len]; omega) = old at k0 k1 k2 k3 k4
          obtain ⟨o0, o1, o2, o3, o4, ho⟩ : ∃ o0 o1 o2 o3 o4, (ltT.enc old) = [o0, o1, o2, o3, o4] := ⟨_, _, _, _, _, rfl⟩
          rw [ho] at k0 k1 k2 k3 k4
          replace k0 : w1.cell? ⟨g, i * 5, none⟩ = some o0 := k0
          replace k1 : w1.cell? ⟨g, i * 5 + 1, none⟩ = some o1 := k1
          replace k2 : w1.cell? ⟨g, i * 5 + 2, none⟩ = some o2 := k2
          replace k3 : w1.cell? ⟨g, i * 5 + 3, none⟩ = some o3 := k3
          replace k4 : w1.cell? ⟨g, i * 5 + 4, none⟩ = some o4 := k4
          have f0 := hfr (i * 5)
          have f1 := hfr (i * 5 + 1)
          have f2 := hfr (i * 5 + 2)
          have f3 := hfr (i * 5 + 3)
          have f4 := hfr (i * 5 + 4)
          replace hz3 := Lib.hid hz3.tail
          have hil : (i : Int) < (l.length : Int) := by omega
          have hi2 : i < l.length := by omega
          clear hcall hb1 hzb hz2 hbx hkj hq hk hz hB r0 r1 r2 r3 r4 hx hget hcl hfr ho
          go_wp2_with fail
          go_roundw
          case rel => exact ⟨i + 1, j + 1, _, by go_num, by go_num, by omega, by omega, hk2, hz3⟩
          case measure => simp [intOf] <;> omega
      · obtain rfl : j = l.length := by omega
        have hl1 : (l.length : Int) ≤ (l.length : Int) := by omega
        obtain ⟨g, cap', hv, hcc, hcl, hz2⟩ := hz.out.clear 0 rfl (⟨⟨0, [], 0, ⟨#[]⟩, 0⟩, none, 0⟩ : LtV) rfl i (l.length - i) (by omega) (by have := hk.out.len; omega)
        rw [hk.out.len] at hv hcc
        injection hv with e1 e2 e3
        subst e1 e3
        rw [show ltT.K = 5 from rfl] at hz2 hcl
        have hall := hk.out.all
        replace hz2 : Hid (Zoo W0 (wr.setCells g (i * 5) (ltT.cells (List.replicate (l.length - i) (⟨⟨0, [], 0, ⟨#[]⟩, 0⟩, none, 0⟩ : LtV)))) (ltT.row (.slice (some ⟨g, 0, none⟩) i cap) (l.filter (fun x => !p x)) :: L)) := Lib.hid (by rw [← hall]; exact hz2)
        generalize wr.setCells g (i * 5) (ltT.cells (List.replicate (l.length - i) (⟨⟨0, [], 0, ⟨#[]⟩, 0⟩, none, 0⟩ : LtV))) = wc at hcl hz2
        have hcl2 : ∀ ty, (Builtin.clear_ #[46] ty #[.slice (some ⟨g, i * 5, none⟩) (l.length - i) (cap - i)]).run Tryz.prog wr = .ok (.tuple #[]) wc := fun ty => hcl _ ty
        have hic : i < l.length := hij
        clear hk hz hall hcl
        go_wp2_with fail
        go_ret
        exact ⟨_, rfl, hz2⟩
end Go.Proofs.YtdobbfjmlnlieaaGreat
namespace Go.Proofs.YtdobbfjmlnlieaaGreat
open Go.RowKit

theorem boxed_below {W W' : World} {B : Nat} {t : TypeId} {v : Value} (h : Boxed W B t v) (hb : Below W.heap.size W W') : Boxed W' B t v := (hb.block B h.lt).trans h
theorem heap_below {W W' : World} {b : Nat} {o : Obj} (h : W.heap[b]? = some o) (hb : Below W.heap.size W W') : W'.heap[b]? = some o := (hb.block b (Array.getElem?_eq_some_iff.1 h).1).trans h
theorem cells_new (w : World) (C : Array Value) (t : TypeId) : (w.alloc (.cells C t)).heap[w.heap.size]? = some (.cells C t (0, 0)) := heap_alloc_new w _
abbrev Rng := Nat × Nat
/-- the ranges lie in v, in a block below B -/
def RangesIn (w : World) (B : Nat) (v : Value) (rs : List Rng) : Prop := ∃ ao cap, v = .slice ao rs.length cap ∧ (rs = [] ∨ ∃ b o, ao = some ⟨b, o, none⟩ ∧ b < B ∧ rs.length ≤ cap ∧ ∀ j, (h : j < rs.length) → w.cell? ⟨b, o + j * 2, none⟩ = some (.int .u64 rs[j].1) ∧ w.cell? ⟨b, o + j * 2 + 1, none⟩ = some (.int .u64 rs[j].2))
theorem RangesIn.later {w w' : World} {B : Nat} {v : Value} {rs : List Rng} (h : RangesIn w B v rs) (hb : Below B w w') : RangesIn w' B v rs := by
  obtain ⟨ao, cap, hv, h | ⟨b, o, ha, hlt, hle, hc⟩⟩ := h
  · exact ⟨ao, cap, hv, .inl h⟩
  · exact ⟨ao, cap, hv, .inr ⟨b, o, ha, hlt, hle, fun j hj => ⟨(hb.cell (p := ⟨b, o + j * 2, none⟩) hlt).trans (hc j hj).1, (hb.cell (p := ⟨b, o + j * 2 + 1, none⟩) hlt).trans (hc j hj).2⟩⟩⟩
theorem RangesIn.mono {w : World} {B B' : Nat} {v : Value} {rs : List Rng} (h : RangesIn w B v rs) (hb : B ≤ B') : RangesIn w B' v rs := by
  obtain ⟨ao, cap, hv, h | ⟨b, o, ha, hlt, hle, hc⟩⟩ := h
  · exact ⟨ao, cap, hv, .inl h⟩
  · exact ⟨ao, cap, hv, .inr ⟨b, o, ha, by omega, hle, hc⟩⟩
theorem RangesIn.on {w w' : World} {v : Value} {rs : List Rng} (h : RangesIn w w.heap.size v rs) (hb : Below w.heap.size w w') : RangesIn w' w'.heap.size v rs := (h.later hb).mono hb.size
def rngCells (r : Rng) : List Value := [.int .u64 r.1, .int .u64 r.2]
def rangesCells (rs : List Rng) : List Value := rs.flatMap rngCells
theorem rangesCells_len : ∀ (rs : List Rng), (rangesCells rs).length = rs.length * 2
  | [] => rfl
  | k :: r => by
    have := rangesCells_len r
    unfold rangesCells at this ⊢
    rw [List.flatMap_cons, List.length_append, this, List.length_cons]
    show 2 + _ = _
    omega
theorem rangesCells_app (a b : List Rng) : rangesCells (a ++ b) = rangesCells a ++ rangesCells b := List.flatMap_append
theorem rangesCells_get : ∀ (rs : List Rng) (j : Nat) (hj : j < rs.length) (r : Nat), r < 2 → (rangesCells rs)[j * 2 + r]? = (rngCells rs[j])[r]?
  | k :: l, 0, _, r, hr => by
    unfold rangesCells
    rw [List.flatMap_cons, List.getElem?_append_left (by show _ < 2; omega)]
    simp
  | k :: l, j + 1, hj, r, hr => by
    have := rangesCells_get l j (by simpa using hj) r hr
    unfold rangesCells at this ⊢
    rw [List.flatMap_cons, List.getElem?_append_right (by show 2 ≤ _; omega), List.getElem_cons_succ, ← this]
    congr 1
    show (j + 1) * 2 + r - 2 = _
    omega
theorem rangesCells_one : ∀ (rs : List Rng), ∀ u ∈ rangesCells rs, u.oneCell' = true := fun rs u hu => by
  obtain ⟨k, _, hk⟩ := List.mem_flatMap.1 hu
  simp only [rngCells, List.mem_cons, List.not_mem_nil, or_false] at hk
  rcases hk with rfl | rfl <;> rfl
theorem Rd.ranges {w : World} {v : Value} {rs : List Rng} (h : Rd w v rs.length (rangesCells rs)) : RangesIn w w.heap.size v rs := by
  obtain ⟨ao, cap, hv, h⟩ := h
  refine ⟨ao, cap, hv, ?_⟩
  rcases h with h | ⟨b, o, ha, hlt, hle, hc⟩
  · exact .inl (List.eq_nil_of_length_eq_zero h)
  · refine .inr ⟨b, o, ha, hlt, hle, fun j hj => ?_⟩
    have g := fun r (hr : r < 2) u (hu : (rngCells rs[j])[r]? = some u) => hc (j * 2 + r) u (by rw [rangesCells_get rs j hj r hr]; exact hu)
    exact ⟨g 0 (by decide) _ rfl, g 1 (by decide) _ rfl⟩
theorem RangesIn.rd {w : World} {v : Value} {rs : List Rng} (h : RangesIn w w.heap.size v rs) : Rd w v rs.length (rangesCells rs) := by
  obtain ⟨ao, cap, hv, h⟩ := h
  refine ⟨ao, cap, hv, ?_⟩
  rcases h with h | ⟨b, o, ha, hlt, hle, hc⟩
  · exact .inl (by rw [h]; rfl)
  · refine .inr ⟨b, o, ha, hlt, hle, fun i u hu => ?_⟩
    have hi : i < rs.length * 2 := by
      have := (List.getElem?_eq_some_iff.1 hu).1
      rwa [rangesCells_len] at this
    obtain ⟨j, r, hr, rfl⟩ : ∃ j r, r < 2 ∧ i = j * 2 + r := ⟨i / 2, i % 2, Nat.mod_lt _ (by decide), by omega⟩
    have hj : j < rs.length := by omega
    rw [rangesCells_get rs j hj r hr] at hu
    obtain ⟨h0, h1⟩ := hc j hj
    match r, hr with
    | 0, _ => rw [← Option.some.inj hu]; exact h0
    | 1, _ => rw [← Option.some.inj hu]; exact h1
def realI (most k : Int) : Int := if k = 0 then most else k
/-- one range of a set: does it hold n -/
def hasOne (most n : Nat) (r : Nat × Nat) : Bool := decide (min (realI most r.1) (realI most r.2) ≤ (n : Int)) && decide ((n : Int) ≤ max (realI most r.1) (realI most r.2))
def hasL (rs : List (Nat × Nat)) (most n : Nat) : Bool := rs.any (hasOne most n)
structure HasMem (W : World) (M N C : Nat) (most n : Nat) : Prop where
  bm : Boxed W M 23 (.int .u64 most)
  bn : Boxed W N 23 (.int .u64 n)
  bc : Boxed W C 166 (.func (.func 154) #[] #[.pointer (some ⟨M, 0, none⟩)])
theorem HasMem.later {W W' : World} {M N C most n : Nat} (h : HasMem W M N C most n) (hb : Below W.heap.size W W') : HasMem W' M N C most n := ⟨boxed_below h.bm hb, boxed_below h.bn hb, boxed_below h.bc hb⟩
set_option maxHeartbeats 1000000 in
theorem real_any (k : Int) (M most : Nat) (w : World) (hM : Boxed w M 23 (.int .u64 most)) :
    Calls Tryz.prog 154 #[.int .u64 k, .pointer (some ⟨M, 0, none⟩)] w fun e w' => e = .returned (.int .u64 (realI most k)) ∧ w' = w := by
  have cM := hM.cell
  by_cases h : k = 0
  · have hr : realI most k = most := if_pos h
    rw [hr]
    have h0 : (k == 0) = true := by rw [h]; rfl
    clear hr hM
    go_enter Tryz.func154, Tryz.ntmps154
    go_wp2_with fail
    go_ret
    exact ⟨rfl, rfl⟩
  · have hr : realI most k = k := if_neg h
    rw [hr]
    have h0 : (k == 0) = false := beq_eq_false_iff_ne.2 h
    clear hr hM cM
    go_enter Tryz.func154, Tryz.ntmps154
    go_wp2_with fail
    go_ret
    exact ⟨rfl, rfl⟩
set_option maxRecDepth 100000 in
set_option maxHeartbeats 2000000 in
theorem hasOne_any (r : Nat × Nat) (M N C most n : Nat) (w : World) (hM : HasMem w M N C most n) :
    Calls Tryz.prog 156 #[.agg #[.int .u64 r.1, .int .u64 r.2], .pointer (some ⟨C, 0, none⟩), .pointer (some ⟨N, 0, none⟩)] w fun e w' => e = .returned (.bool (hasOne most n r)) ∧ Hid (Below w.heap.size w w') := by
  obtain ⟨f, t⟩ := r
  dsimp only
  have hb := (Below.refl _ w).alloc (Nat.le_refl _) (.cells #[.int .u64 f, .int .u64 t] 129)
  have hM1 := hM.later hb
  have hf := Lib.hid (fun n => real_any f M most ((w.alloc (.cells #[.int .u64 f, .int .u64 t] 129)).drewN n) hM1.bm)
  have ht := Lib.hid (fun n => real_any t M most ((w.alloc (.cells #[.int .u64 f, .int .u64 t] 129)).drewN n) hM1.bm)
  have cN := hM1.bn.cell
  have cC := hM1.bc.cell
  have hv : Hid (hasOne most n (f, t) = (decide (min (realI most f) (realI most t) ≤ (n : Int)) && decide ((n : Int) ≤ max (realI most f) (realI most t)))) := Lib.hid rfl
  replace hb := Lib.hid hb
  clear hM hM1
  generalize realI most f = a at hf hv
  generalize realI most t = b at ht hv
  by_cases h1 : min a b ≤ (n : Int)
  · rw [decide_eq_true h1, Bool.true_and] at hv
    go_enter Tryz.func156, Tryz.ntmps156
    go_wp2_with fail
    go_quiet ((go_at_call 154; first | exact Calls.quiet_of_same (hf.out _) | exact Calls.quiet_of_same (ht.out _)))
    go_wp2_with fail
    all_goals
      go_ret
      exact ⟨by rw [hv.out]; first | rfl | exact ret_bool (by first | rw [Int.max_eq_left (by omega)] | rw [Int.max_eq_right (by omega)]), Lib.hid (below_drewN hb.out _)⟩
  · rw [decide_eq_false h1, Bool.false_and] at hv
    go_enter Tryz.func156, Tryz.ntmps156
    go_wp2_with fail
    go_quiet ((go_at_call 154; first | exact Calls.quiet_of_same (hf.out _) | exact Calls.quiet_of_same (ht.out _)))
    go_wp2_with fail
    all_goals
      go_ret
      exact ⟨by rw [hv.out]; first | rfl | exact ret_bool (by first | rw [Int.max_eq_left (by omega)] | rw [Int.max_eq_right (by omega)]), Lib.hid (below_drewN hb.out _)⟩
set_option maxRecDepth 100000 in
set_option maxHeartbeats 2000000 in
theorem hasIdx_any (rs : List (Nat × Nat)) (v : Value) (M N C most n : Nat) (w : World) (hl : rs.length ≤ 9223372036854775807) (hM : HasMem w M N C most n) (hk : RangesIn w w.heap.size v rs) :
    Calls Tryz.prog 179 #[v, .func (.func 156) #[] #[.pointer (some ⟨C, 0, none⟩), .pointer (some ⟨N, 0, none⟩)]] w fun e w' => ∃ r : Int, e = .returned (.int .i64 r) ∧ Hid (decide (0 ≤ r) = hasL rs most n) ∧ Hid (Below w.heap.size w w') := by
  have hk0 := Lib.hid hk
  have hwa := Lib.hid hasOne_any
  obtain ⟨ao, cap, rfl, _⟩ := hk
  replace hM := Lib.hid hM
  go_enter Tryz.func179, Tryz.ntmps179
  go_wp2_with fail
  go_loopw [8] (fun v8 wr => ∃ q : Nat, v8 = .int .i64 q ∧ q ≤ rs.length ∧ Hid ((rs.take q).any (hasOne most n) = false) ∧ Hid (Below w.heap.size w wr)) (fun v8 _ => rs.length - (intOf v8).toNat)
  case atStart => exact ⟨0, rfl, Nat.zero_le _, Lib.hid rfl, Lib.hid (Below.refl _ _)⟩
  case round =>
    obtain ⟨q, rfl, hq, hno, hb⟩ := hrel
    by_cases hlt : q < rs.length
    · obtain ⟨ao', cap', hv, hk | ⟨b, o, hao, hbB, hcap, hcells⟩⟩ := hk0.out.later hb.out
      · rw [hk] at hlt; simp at hlt
      · cases hv
        subst hao
        have hc := hcells q hlt
        have hstep : (rs.take (q + 1)).any (hasOne most n) = hasOne most n rs[q] := by rw [List.take_succ_eq_append_getElem hlt, List.any_append, hno.out]; simp
        have hyes : hasOne most n rs[q] = true → rs.any (hasOne most n) = true := fun h => List.any_eq_true.2 ⟨_, List.getElem_mem hlt, h⟩
        have hcall := Lib.hid (hwa.out rs[q] M N C most n wr (hM.out.later hb.out))
        generalize rs[q] = k at hc hstep hyes hcall
        obtain ⟨c0, c1⟩ := hc
        clear hcells
        cases hB : hasOne most n k
        · rw [hB] at hcall hstep
          replace hstep := Lib.hid hstep
          replace hyes := Lib.hid hyes
          replace hB := Lib.hid hB
          go_wp2_with fail
          refine hcall.out.mono ?_
          rintro e w3 ⟨rfl, hb3⟩
          have hb4 := Lib.hid (hb.out.trans (hb3.out.mono hb.out.size))
          clear hcall hb3 c0 c1
          go_wp2_with fail
          go_roundw
          case rel => exact ⟨q + 1, by go_num, by omega, hstep, hb4⟩
          case measure => simp [intOf] <;> omega
        · rw [hB] at hcall
          have hyy := Lib.hid (hyes hB)
          replace hB := Lib.hid hB
          clear hstep hyes
          go_wp2_with fail
          refine hcall.out.mono ?_
          rintro e w3 ⟨rfl, hb3⟩
          have hb4 := Lib.hid (hb.out.trans (hb3.out.mono hb.out.size))
          clear hcall hb3 c0 c1
          go_wp2_with fail
          go_ret
          exact ⟨q, rfl, Lib.hid (by rw [hasL, hyy.out]; exact decide_eq_true (by omega)), hb4⟩
    · obtain rfl : q = rs.length := by omega
      rw [List.take_length] at hno
      go_wp2_with fail
      go_ret
      exact ⟨-1, rfl, Lib.hid (by rw [hasL, hno.out]; rfl), hb⟩
set_option maxHeartbeats 2000000 in
/-- Has tells whether a set holds a number -/
theorem setHas_any (rs : List (Nat × Nat)) (v : Value) (most n : Nat) (w : World) (hl : rs.length ≤ 9223372036854775807) (hk : RangesIn w w.heap.size v rs) :
    Calls Tryz.prog 124 #[v, .int .u64 most, .int .u64 n] w fun e w' => e = .returned (.bool (hasL rs most n)) ∧ Below w.heap.size w w' := by
  have hc : Hid (∀ (M N C : Nat) (W : World), HasMem W M N C most n → RangesIn W W.heap.size v rs → Calls Tryz.prog 155 #[v, .func (.func 156) #[] #[.pointer (some ⟨C, 0, none⟩), .pointer (some ⟨N, 0, none⟩)]] W fun e w' => e = .returned (.bool (hasL rs most n)) ∧ Hid (Below W.heap.size W w')) := Lib.hid (fun M N C W hM hk => by
    have hi := Lib.hid (hasIdx_any rs v M N C most n W hl hM hk)
    obtain ⟨ao, cap, rfl, _⟩ := hk
    clear hM
    go_enter Tryz.func155, Tryz.ntmps155
    go_wp2_with fail
    refine hi.out.mono ?_
    rintro e w1 ⟨r, rfl, hr, hb⟩
    go_wp2_with fail
    go_ret
    exact ⟨by rw [← hr.out]; rfl, hb⟩)
  have hk0 := Lib.hid hk
  obtain ⟨ao, cap, rfl, _⟩ := hk
  obtain ⟨W1, hW1⟩ : ∃ W1, W1 = w.alloc (.cells #[.int .u64 most] 23) := ⟨_, rfl⟩
  obtain ⟨W2, hW2⟩ : ∃ W2, W2 = W1.alloc (.cells #[.int .u64 n] 23) := ⟨_, rfl⟩
  obtain ⟨W3, hW3⟩ : ∃ W3, W3 = W2.alloc (.cells #[.func (.func 154) #[] #[.pointer (some ⟨w.heap.size, 0, none⟩)]] 166) := ⟨_, rfl⟩
  have s1 : W1.heap.size = w.heap.size + 1 := by rw [hW1]; simp
  have s2 : W2.heap.size = w.heap.size + 1 + 1 := by rw [hW2]; simp [s1]
  have m1 : Boxed W1 w.heap.size 23 (.int .u64 most) := by rw [hW1]; exact cells_new w _ _
  have m2 : Boxed W2 (w.heap.size + 1) 23 (.int .u64 n) := by rw [hW2, ← s1]; exact cells_new W1 _ _
  have m3 : Boxed W3 (w.heap.size + 1 + 1) 166 (.func (.func 154) #[] #[.pointer (some ⟨w.heap.size, 0, none⟩)]) := by rw [hW3, ← s2]; exact cells_new W2 _ _
  have b1 : Below w.heap.size w W1 := by rw [hW1]; exact (Below.refl _ w).alloc (Nat.le_refl _) _
  have b2 : Below W1.heap.size W1 W2 := by rw [hW2]; exact (Below.refl _ W1).alloc (Nat.le_refl _) _
  have b3 : Below W2.heap.size W2 W3 := by rw [hW3]; exact (Below.refl _ W2).alloc (Nat.le_refl _) _
  have bw : Below w.heap.size w W3 := (b1.trans (b2.mono b1.size)).trans (b3.mono (Nat.le_trans b1.size b2.size))
  have hM3 : HasMem W3 w.heap.size (w.heap.size + 1) (w.heap.size + 1 + 1) most n := ⟨boxed_below (boxed_below m1 b2) b3, boxed_below m2 b3, m3⟩
  have hk3 : RangesIn W3 W3.heap.size (.slice ao rs.length cap) rs := by
    obtain ⟨ao', cap', hv, h | ⟨b, o, ha, hlt, hle, hc⟩⟩ := hk0.out.later bw
    · exact ⟨ao', cap', hv, .inl h⟩
    · exact ⟨ao', cap', hv, .inr ⟨b, o, ha, Nat.lt_of_lt_of_le hlt bw.size, hle, hc⟩⟩
  have hcall := hc.out _ _ _ W3 hM3 hk3
  rw [hW3, hW2, hW1] at hcall bw
  replace hcall := Lib.hid hcall
  replace bw := Lib.hid bw
  clear hc hk0 hM3 hk3 m1 m2 m3 b1 b2 b3 s1 s2 hW3 hW2 hW1
  go_enter Tryz.func124, Tryz.ntmps124
  go_wp2_with fail
  refine hcall.out.mono ?_
  rintro e w1 ⟨rfl, hb⟩
  have hb9 := Lib.hid (bw.out.trans (hb.out.mono bw.out.size))
  clear hb bw hcall
  go_wp2_with fail
  go_ret
  exact ⟨rfl, hb9.out⟩
def inOne (most n : Nat) (r : Rng) : Bool :=
  let a := if r.1 = 0 then most else r.1
  let b := if r.2 = 0 then most else r.2
  (decide (a ≤ n) && decide (n ≤ b)) || (decide (b ≤ n) && decide (n ≤ a))
theorem inOne_eq (most n : Nat) (r : Rng) : inOne most n r = hasOne most n r := by
  obtain ⟨f, t⟩ := r
  unfold inOne hasOne realI
  dsimp only
  by_cases hf : f = 0 <;> by_cases ht : t = 0
  all_goals (
    simp only [hf, ht, if_true, if_false, Int.natCast_eq_zero]
    rw [Bool.eq_iff_iff]
    simp only [Bool.or_eq_true, Bool.and_eq_true, decide_eq_true_eq]
    omega)
theorem inAny_eq (rs : List Rng) (most n : Nat) : rs.any (inOne most n) = hasL rs most n := by
  unfold hasL
  congr 1
  funext r
  exact inOne_eq most n r
theorem inOne_at (most n f t a b : Nat) (ha : a = if f = 0 then most else f) (hb : b = if t = 0 then most else t) : inOne most n (f, t) = ((decide (a ≤ n) && decide (n ≤ b)) || (decide (b ≤ n) && decide (n ≤ a))) := by
  unfold inOne
  dsimp only
  rw [← ha, ← hb]
set_option maxRecDepth 100000 in
set_option maxHeartbeats 8000000 in
theorem refSetHas_any (rs : List Rng) (v : Value) (most n : Nat) (w : World) (hl : rs.length ≤ 9223372036854775807) (hk : RangesIn w w.heap.size v rs) :
    Calls Tryz.prog 65 #[v, .int .u64 most, .int .u64 n] w fun e w' => e = .returned (.bool (hasL rs most n)) ∧ Below w.heap.size w w' := by
  have hk0 := Lib.hid hk
  obtain ⟨ao, cap, rfl, _⟩ := hk
  have hr := Lib.hid (inAny_eq rs most n)
  go_enter Tryz.func65, Tryz.ntmps65
  go_wp2_with fail
  go_loopw [7] (fun v7 wr => ∃ q : Nat, v7 = .int .i64 q ∧ q ≤ rs.length ∧ Hid ((rs.take q).any (inOne most n) = false) ∧ Hid (Below w.heap.size w wr)) (fun v7 _ => rs.length - (intOf v7).toNat)
  case atStart => exact ⟨0, rfl, Nat.zero_le _, Lib.hid rfl, Lib.hid (Below.refl _ _)⟩
  case round =>
    obtain ⟨q, rfl, hq, hno, hb⟩ := hrel
    by_cases hlt : q < rs.length
    · obtain ⟨ao', cap', hv, hk | ⟨b, o, hao, hbB, hcap, hcells⟩⟩ := hk0.out.later hb.out
      · rw [hk] at hlt; simp at hlt
      · cases hv
        subst hao
        have hc := hcells q hlt
        have hstep : (rs.take (q + 1)).any (inOne most n) = inOne most n rs[q] := by rw [List.take_succ_eq_append_getElem hlt, List.any_append, hno.out]; simp
        have hyes : inOne most n rs[q] = true → hasL rs most n = true := fun h => by rw [← hr.out]; exact List.any_eq_true.2 ⟨_, List.getElem_mem hlt, h⟩
        generalize rs[q] = k at hc hstep hyes
        obtain ⟨f, t⟩ := k
        obtain ⟨c0, c1⟩ := hc
        dsimp only at c0 c1
        clear hcells
        obtain ⟨x, hx⟩ : ∃ x, x = if f = 0 then most else f := ⟨_, rfl⟩
        obtain ⟨y, hy⟩ : ∃ y, y = if t = 0 then most else t := ⟨_, rfl⟩
        have hin := inOne_at most n f t x y hx hy
        have hbW := Lib.hid (fun m => below_drewN hb.out m)
        have hi0 : (0 : Int) ≤ (q : Int) := by omega
        have hi1 : (q : Int) < (rs.length : Int) := by omega
        have key : (inOne most n (f, t) = true ∧ (decide (x ≤ n) = true ∧ decide (n ≤ y) = true)) ∨ (inOne most n (f, t) = true ∧ (decide (x ≤ n) = true ∧ decide (n ≤ y) = false ∧ decide (y ≤ n) = true ∧ decide (n ≤ x) = true)) ∨
            (inOne most n (f, t) = false ∧ (decide (x ≤ n) = true ∧ decide (n ≤ y) = false ∧ decide (y ≤ n) = true ∧ decide (n ≤ x) = false)) ∨ (inOne most n (f, t) = true ∧ (decide (x ≤ n) = false ∧ decide (y ≤ n) = true ∧ decide (n ≤ x) = true)) ∨
            (inOne most n (f, t) = false ∧ (decide (x ≤ n) = false ∧ decide (y ≤ n) = false)) := by
          rw [hin]
          by_cases h1 : x ≤ n <;> by_cases h2 : n ≤ y <;> by_cases h3 : y ≤ n <;> by_cases h4 : n ≤ x <;> simp [h1, h2, h3, h4] <;> omega
        clear hin
        rcases key with ⟨hI, t1, t2⟩ | ⟨hI, t1, t2, t3, t4⟩ | ⟨hI, t1, t2, t3, t4⟩ | ⟨hI, t1, t3, t4⟩ | ⟨hI, t1, t3⟩
        all_goals (
          rw [hI] at hstep
          replace hstep := Lib.hid hstep
          first
          | replace hyes := Lib.hid (hyes hI)
          | clear hyes
          clear hI
          by_cases hf : f = 0 <;> by_cases ht : t = 0
          all_goals (
            first | rw [if_pos hf] at hx | rw [if_neg hf] at hx
            first | rw [if_pos ht] at hy | rw [if_neg ht] at hy
            subst x
            subst y
            have qf : ((f : Int) == 0) = decide (f = 0) := by
              by_cases h : f = 0
              · rw [decide_eq_true h]; exact beq_iff_eq.2 (by omega)
              · rw [decide_eq_false h]; exact beq_eq_false_iff_ne.2 (by omega)
            have qt : ((t : Int) == 0) = decide (t = 0) := by
              by_cases h : t = 0
              · rw [decide_eq_true h]; exact beq_iff_eq.2 (by omega)
              · rw [decide_eq_false h]; exact beq_eq_false_iff_ne.2 (by omega)
            first | rw [decide_eq_true hf] at qf | rw [decide_eq_false hf] at qf
            first | rw [decide_eq_true ht] at qt | rw [decide_eq_false ht] at qt
            replace hf := Lib.hid hf
            replace ht := Lib.hid ht
            go_wp2_with fail
            go_quiet (fail)
            go_wp2_with fail
            first
            | (go_ret
               exact ⟨by rw [hyes.out]; rfl, hbW.out _⟩)
            | (go_roundw
               case rel => exact ⟨q + 1, by go_num, by omega, hstep, Lib.hid (hbW.out _)⟩
               case measure => simp [intOf] <;> omega)
            | (exfalso
               rw [t1] at t3
               cases t3)))
    · obtain rfl : q = rs.length := by omega
      rw [List.take_length] at hno
      go_wp2_with fail
      go_ret
      exact ⟨by rw [← hr.out, hno.out]; rfl, hb.out⟩
end Go.Proofs.YtdobbfjmlnlieaaGreat
