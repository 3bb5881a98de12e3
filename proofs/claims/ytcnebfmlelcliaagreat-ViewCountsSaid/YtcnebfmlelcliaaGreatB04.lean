/- IndexFunc and DeleteFunc at seats and letters, whatever the closure has captured: walked. Small plain lemmas on blocks, boxes, texts; a text cut at a byte; rows of ranges and of numbers. -/
import Derived.Test.YtcnebfmlelcliaaGreatB03
import Derived.Test.YtcnebfmlelcliaaGreatProg
import Derived.Test.YtcnebfmlelcliaaGreatChecked
import Derived.BigCall
import Derived.BigGuard
import Derived.Laws.Closers25
import Derived.Laws.Closers25b
import Derived.Laws.Strings3
import Derived.Lib.AppendIntMem
import Derived.Lib.ItoaLen
import Derived.Lib.ItoaMem
import Derived.Lib.Strings
import Derived.Lib.Walk
import Derived.Test.YtcnebfmlelcliaaGreatB01
import Derived.Lib.Split
import Derived.Lib.SplitLaws
import Derived.Lib.IndexBytes
import Derived.RangeFuncBox
import Derived.BigQuiet
import Derived.Deep.QuietTactic
namespace Go.Proofs.YtcnebfmlelcliaaGreat
set_option linter.unusedSimpArgs false
open Go.RowKit

/-- what a closure says of the elements of a row, wherever the row's memory stands -/
def SaysZ {α : Type} (R : RT α) (l : List α) (p : α → Bool) (L : List Th) (W0 : World) (f : FuncId) (caps : Array Value) (v : Value) : Prop :=
  ∀ x ∈ l, ∀ (W2 : World) (l2 : List α), Zoo W0 W2 (R.row v l2 :: L) → Calls Tryz.prog f (#[.agg (R.enc x).toArray] ++ caps) W2 fun e w' => e = .returned (.bool (p x)) ∧ Hid (Below W2.heap.size W2 w')
set_option maxRecDepth 100000 in
set_option maxHeartbeats 4000000 in
theorem endFind_any {W0 W : World} {L : List Th} (v : Value) (l : List St) (p : St → Bool) (c0 : Value) (hlen : l.length ≤ 100000) (hz : Zoo W0 W (stT.row v l :: L)) (hs : SaysZ stT l p L W0 64 #[c0] v) :
    Calls Tryz.prog 80 #[v, .func (.func 64) #[] #[c0]] W fun e w' => ∃ r : Int, e = .returned (.int .i64 r) ∧ Hid (r = idxI p l) ∧ Hid (Below W.heap.size W w') := by
  obtain ⟨ao, cap, hv⟩ := (hz.own 0 rfl).len
  subst hv
  replace hz := Lib.hid hz
  replace hs := Lib.hid hs
  go_enter Tryz.func80, Tryz.ntmps80
  go_wp2_with fail
  go_loopw [8] (fun v8 wr => ∃ i : Nat, v8 = .int .i64 i ∧ i ≤ l.length ∧ Hid (∀ k (_ : k < i) (h2 : k < l.length), p l[k] = false) ∧ Hid (Below W.heap.size W wr)) (fun v8 _ => l.length - (intOf v8).toNat)
  case atStart => exact ⟨0, rfl, Nat.zero_le _, Lib.hid (fun k hk => by omega), Lib.hid (Below.refl _ _)⟩
  case round =>
    obtain ⟨i, rfl, hi, hno, hb⟩ := hrel
    by_cases hlt : i < l.length
    · obtain ⟨g, cap', hv, -, -, hcells⟩ := ((hz.out.below hb.out).own 0 rfl).cells hlt
      injection hv with hv1 hv2 hv3
      subst hv1 hv3
      obtain ⟨x, hx⟩ : ∃ x, l[i] = x := ⟨_, rfl⟩
      have r0 : wr.cell? ⟨g, i * 5, none⟩ = some (.int .u64 x.session) := by have := hcells 0 (by decide); rw [hx] at this; exact this
      have r1 : wr.cell? ⟨g, i * 5 + 1, none⟩ = some (.int .u64 x.last) := by have := hcells 1 (by decide); rw [hx] at this; exact this
      have r2 : wr.cell? ⟨g, i * 5 + 2, none⟩ = some (.int .i64 x.node) := by have := hcells 2 (by decide); rw [hx] at this; exact this
      have r3 : wr.cell? ⟨g, i * 5 + 3, none⟩ = some (.int .u64 x.life) := by have := hcells 3 (by decide); rw [hx] at this; exact this
      have r4 : wr.cell? ⟨g, i * 5 + 4, none⟩ = some (.int .u64 x.try_) := by have := hcells 4 (by decide); rw [hx] at this; exact this
      have hcall := hs.out x (by rw [← hx]; exact List.getElem_mem hlt) wr l (hz.out.below hb.out)
      replace hcall : Calls Tryz.prog 64 #[.agg #[.int .u64 x.session, .int .u64 x.last, .int .i64 x.node, .int .u64 x.life, .int .u64 x.try_], c0] wr fun e w' => e = .returned (.bool (p x)) ∧ Hid (Below wr.heap.size wr w') := hcall
      have hl1 : (i : Int) < (l.length : Int) := by omega
      cases hq : p x with
      | true =>
        have hfound := Lib.hid (idxI_some hlt (by rw [hx]; exact hq) (fun k hk => hno.out k hk (by omega)) : idxI p l = (i : Int))
        rw [hq] at hcall
        replace hcall := Lib.hid hcall
        replace hx := Lib.hid hx
        clear hcells hq hno
        go_wp2_with fail
        refine hcall.out.mono ?_
        rintro e w1 ⟨rfl, hb1⟩
        have hB := Lib.hid (hb.out.trans (hb1.out.mono hb.out.size))
        clear hcall hb1
        go_wp2_with fail
        go_ret
        exact ⟨_, rfl, Lib.hid hfound.out.symm, hB⟩
      | false =>
        have hno2 : Hid (∀ k (_ : k < i + 1) (h2 : k < l.length), p l[k] = false) := Lib.hid (fun k hk h2 => by
          by_cases e : k = i
          · subst e; rw [hx]; exact hq
          · exact hno.out k (by omega) h2)
        rw [hq] at hcall
        replace hcall := Lib.hid hcall
        replace hx := Lib.hid hx
        clear hcells hq hno
        go_wp2_with fail
        refine hcall.out.mono ?_
        rintro e w1 ⟨rfl, hb1⟩
        have hB := Lib.hid (hb.out.trans (hb1.out.mono hb.out.size))
        clear hcall hb1
        go_wp2_with fail
        go_roundw
        case rel => exact ⟨i + 1, by go_num, by omega, hno2, hB⟩
        case measure => simp [intOf] <;> omega
    · have hnone := Lib.hid (idxI_none (fun k hk => hno.out k (by omega) hk) : idxI p l = -1)
      have hl1 : (l.length : Int) ≤ (i : Int) := by omega
      go_wp2_with fail
      go_ret
      exact ⟨_, rfl, Lib.hid hnone.out.symm, hb⟩
set_option maxRecDepth 100000 in
set_option maxHeartbeats 8000000 in
theorem endDel_any {W0 W : World} {L : List Th} (v : Value) (l : List St) (p : St → Bool) (c0 : Value) (hlen : l.length ≤ 100000) (hz : Zoo W0 W (stT.row v l :: L)) (hs : SaysZ stT l p L W0 64 #[c0] v) :
    Calls Tryz.prog 60 #[v, .func (.func 64) #[] #[c0]] W fun e w' => ∃ v', e = .returned v' ∧ Hid (Zoo W0 w' (stT.row v' (l.filter (fun x => !p x)) :: L)) := by
  have hfind := Lib.hid (endFind_any v l p c0 hlen hz hs)
  obtain ⟨ao, cap, hv⟩ := (hz.own 0 rfl).len
  subst hv
  replace hz := Lib.hid hz
  replace hs := Lib.hid hs
  go_enter Tryz.func60, Tryz.ntmps60
  go_wp2_with fail
  refine hfind.out.mono ?_
  rintro e w1 ⟨r, rfl, hr, hb1⟩
  have hz1 := Lib.hid (hz.out.below hb1.out)
  clear hfind hz hb1
  rcases idxI_cases p l with ⟨h1, h2⟩ | ⟨i0, hi0, h1, hp0, hno⟩
  · have hrr : r = -1 := hr.out.trans h1
    subst hrr
    replace h2 := Lib.hid h2
    clear h1 hr
    go_wp2_with fail
    go_ret
    exact ⟨_, rfl, Lib.hid (by rw [h2.out]; exact hz1.out)⟩
  · have hrr : r = (i0 : Int) := hr.out.trans h1
    subst hrr
    have hk0 := Lib.hid (Kept.start hi0 hp0 hno)
    clear h1 hr hp0 hno
    have hne : ((i0 : Int) == -1) = false := by simp
    go_wp2_with fail
    go_loopw [5, 6, 7] (fun v5 v6 _ wr => ∃ (i j : Nat) (cur : List St), v5 = .int .i64 i ∧ v6 = .int .i64 j ∧ i < j ∧ j ≤ l.length ∧ Hid (Kept p l cur i j) ∧ Hid (Zoo W0 wr (stT.row (.slice ao l.length cap) cur :: L))) (fun _ v6 _ _ => l.length - (intOf v6).toNat)
    case atStart => exact ⟨i0, i0 + 1, l, rfl, by go_num, by omega, by omega, hk0, hz1⟩
    case round =>
      clear hk0 hz1 hne
      obtain ⟨i, j, cur, rfl, rfl, hij, hjl, hk, hz⟩ := hrel
      by_cases hlt : j < l.length
      · obtain ⟨g, cap', hv, -, hg, hcells⟩ := (hz.out.own 0 rfl).cells (j := j) (by rw [hk.out.len]; exact hlt)
        rw [hk.out.len] at hv
        injection hv with hv1 hv2 hv3
        subst hv1 hv3
        obtain ⟨x, hx⟩ : ∃ x, l[j] = x := ⟨_, rfl⟩
        have hget := hk.out.get hlt
        rw [hx] at hget
        have r0 : wr.cell? ⟨g, j * 5, none⟩ = some (.int .u64 x.session) := by have := hcells 0 (by decide); rw [hget] at this; exact this
        have r1 : wr.cell? ⟨g, j * 5 + 1, none⟩ = some (.int .u64 x.last) := by have := hcells 1 (by decide); rw [hget] at this; exact this
        have r2 : wr.cell? ⟨g, j * 5 + 2, none⟩ = some (.int .i64 x.node) := by have := hcells 2 (by decide); rw [hget] at this; exact this
        have r3 : wr.cell? ⟨g, j * 5 + 3, none⟩ = some (.int .u64 x.life) := by have := hcells 3 (by decide); rw [hget] at this; exact this
        have r4 : wr.cell? ⟨g, j * 5 + 4, none⟩ = some (.int .u64 x.try_) := by have := hcells 4 (by decide); rw [hget] at this; exact this
        have hzb := hz.out.newBox [.int .u64 x.session, .int .u64 x.last, .int .i64 x.node, .int .u64 x.life, .int .u64 x.try_].toArray 100
        have hcall := hs.out x (by rw [← hx]; exact List.getElem_mem hlt) _ cur hzb.tail
        replace hcall : Calls Tryz.prog 64 #[.agg #[.int .u64 x.session, .int .u64 x.last, .int .i64 x.node, .int .u64 x.life, .int .u64 x.try_], c0] (wr.alloc (.cells #[.int .u64 x.session, .int .u64 x.last, .int .i64 x.node, .int .u64 x.life, .int .u64 x.try_] 100)) fun e w' => e = .returned (.bool (p x)) ∧ Hid (Below (wr.alloc (.cells #[.int .u64 x.session, .int .u64 x.last, .int .i64 x.node, .int .u64 x.life, .int .u64 x.try_] 100)).heap.size (wr.alloc (.cells #[.int .u64 x.session, .int .u64 x.last, .int .i64 x.node, .int .u64 x.life, .int .u64 x.try_] 100)) w') := hcall
        have hl1 : (j : Int) < (l.length : Int) := by omega
        replace hcall := Lib.hid hcall
        replace hzb := Lib.hid hzb
        replace hx := Lib.hid hx
        replace hget := Lib.hid hget
        clear hcells
        go_wp2_with fail
        refine hcall.out.mono ?_
        rintro e w1 ⟨rfl, hb1⟩
        have hz2 := hzb.out.below hb1.out
        obtain ⟨hbx, -⟩ := hz2.box 0 rfl
        generalize hB : wr.heap.size = B at hbx hz2 ⊢
        have b0 : w1.cell? ⟨B, 0, none⟩ = some (.int .u64 x.session) := box_cell hbx 0
        have b1 : w1.cell? ⟨B, 1, none⟩ = some (.int .u64 x.last) := box_cell hbx 1
        have b2 : w1.cell? ⟨B, 2, none⟩ = some (.int .i64 x.node) := box_cell hbx 2
        have b3 : w1.cell? ⟨B, 3, none⟩ = some (.int .u64 x.life) := box_cell hbx 3
        have b4 : w1.cell? ⟨B, 4, none⟩ = some (.int .u64 x.try_) := box_cell hbx 4
        have hkj := hk.out
        cases hq : p x with
        | true =>
          have hk2 := Lib.hid (hkj.skip hlt (by rw [hx.out]; exact hq))
          have hz3 := Lib.hid hz2.tail
          clear hcall hb1 hzb hz2 hbx hkj hq hk hz hB r0 r1 r2 r3 r4 hx hget
          go_wp2_with fail
          go_roundw
          case rel => exact ⟨i, j + 1, cur, rfl, by go_num, by omega, by omega, hk2, hz3⟩
          case measure => simp [intOf] <;> omega
        | false =>
          have hk2 := Lib.hid (hkj.keep hlt (by rw [hx.out]; exact hq))
          rw [hx.out] at hk2
          obtain ⟨g', cap', hv, -, hg2, hcl, hfr, hz3⟩ := hz2.put5 1 rfl rfl i (by rw [hkj.len]; omega) x (.int .u64 x.session) (.int .u64 x.last) (.int .i64 x.node) (.int .u64 x.life) (.int .u64 x.try_) rfl
          rw [hkj.len] at hv
          injection hv with e1 e2 e3
          injection e1 with e1
          injection e1 with e1
          subst e1 e3
          have k0 := hcl 0 (by decide)
          have k1 := hcl 1 (by decide)
          have k2 := hcl 2 (by decide)
          have k3 := hcl 3 (by decide)
          have k4 := hcl 4 (by decide)
          generalize cur[i]'(by rw [hkj.len]; omega) = old at k0 k1 k2 k3 k4
          obtain ⟨o0, o1, o2, o3, o4, ho⟩ : ∃ o0 o1 o2 o3 o4, (stT.enc old) = [o0, o1, o2, o3, o4] := ⟨_, _, _, _, _, rfl⟩
          rw [ho] at k0 k1 k2 k3 k4
          replace k0 : w1.cell? ⟨g, i * 5, none⟩ = some o0 := k0
          replace k1 : w1.cell? ⟨g, i * 5 + 1, none⟩ = some o1 := k1
          replace k2 : w1.cell? ⟨g, i * 5 + 2, none⟩ = some o2 := k2
          replace k3 : w1.cell? ⟨g, i * 5 + 3, none⟩ = some o3 := k3
          replace k4 : w1.cell? ⟨g, i * 5 + 4, none⟩ = some o4 := k4
          have f0 := hfr (i * 5)
          have f1 := hfr (i * 5 + 1)
          have f2 := hfr (i * 5 + 2)
          have f3 := hfr (i * 5 + 3)
          have f4 := hfr (i * 5 + 4)
          replace hz3 := Lib.hid hz3.tail
          have hil : (i : Int) < (l.length : Int) := by omega
          have hi2 : i < l.length := by omega
          clear hcall hb1 hzb hz2 hbx hkj hq hk hz hB r0 r1 r2 r3 r4 hx hget hcl hfr ho
          go_wp2_with fail
          go_roundw
          case rel => exact ⟨i + 1, j + 1, _, by go_num, by go_num, by omega, by omega, hk2, hz3⟩
          case measure => simp [intOf] <;> omega
      · obtain rfl : j = l.length := by omega
        have hl1 : (l.length : Int) ≤ (l.length : Int) := by omega
        obtain ⟨g, cap', hv, hcc, hcl, hz2⟩ := hz.out.clear 0 rfl (⟨0, 0, 0, 0, 0⟩ : St) rfl i (l.length - i) (by omega) (by have := hk.out.len; omega)
        rw [hk.out.len] at hv hcc
        injection hv with e1 e2 e3
        subst e1 e3
        rw [show stT.K = 5 from rfl] at hz2 hcl
        have hall := hk.out.all
        replace hz2 : Hid (Zoo W0 (wr.setCells g (i * 5) (stT.cells (List.replicate (l.length - i) (⟨0, 0, 0, 0, 0⟩ : St)))) (stT.row (.slice (some ⟨g, 0, none⟩) i cap) (l.filter (fun x => !p x)) :: L)) := Lib.hid (by rw [← hall]; exact hz2)
        generalize wr.setCells g (i * 5) (stT.cells (List.replicate (l.length - i) (⟨0, 0, 0, 0, 0⟩ : St))) = wc at hcl hz2
        have hcl2 : ∀ ty, (Builtin.clear_ #[25] ty #[.slice (some ⟨g, i * 5, none⟩) (l.length - i) (cap - i)]).run Tryz.prog wr = .ok (.tuple #[]) wc := fun ty => hcl _ ty
        have hic : i < l.length := hij
        clear hk hz hall hcl
        go_wp2_with fail
        go_ret
        exact ⟨_, rfl, hz2⟩
set_option maxRecDepth 100000 in
set_option maxHeartbeats 4000000 in
theorem openDFind_any {W0 W : World} {L : List Th} (v : Value) (l : List St) (p : St → Bool) (c0 : Value) (hlen : l.length ≤ 100000) (hz : Zoo W0 W (stT.row v l :: L)) (hs : SaysZ stT l p L W0 62 #[c0] v) :
    Calls Tryz.prog 80 #[v, .func (.func 62) #[] #[c0]] W fun e w' => ∃ r : Int, e = .returned (.int .i64 r) ∧ Hid (r = idxI p l) ∧ Hid (Below W.heap.size W w') := by
  obtain ⟨ao, cap, hv⟩ := (hz.own 0 rfl).len
  subst hv
  replace hz := Lib.hid hz
  replace hs := Lib.hid hs
  go_enter Tryz.func80, Tryz.ntmps80
  go_wp2_with fail
  go_loopw [8] (fun v8 wr => ∃ i : Nat, v8 = .int .i64 i ∧ i ≤ l.length ∧ Hid (∀ k (_ : k < i) (h2 : k < l.length), p l[k] = false) ∧ Hid (Below W.heap.size W wr)) (fun v8 _ => l.length - (intOf v8).toNat)
  case atStart => exact ⟨0, rfl, Nat.zero_le _, Lib.hid (fun k hk => by omega), Lib.hid (Below.refl _ _)⟩
  case round =>
    obtain ⟨i, rfl, hi, hno, hb⟩ := hrel
    by_cases hlt : i < l.length
    · obtain ⟨g, cap', hv, -, -, hcells⟩ := ((hz.out.below hb.out).own 0 rfl).cells hlt
      injection hv with hv1 hv2 hv3
      subst hv1 hv3
      obtain ⟨x, hx⟩ : ∃ x, l[i] = x := ⟨_, rfl⟩
      have r0 : wr.cell? ⟨g, i * 5, none⟩ = some (.int .u64 x.session) := by have := hcells 0 (by decide); rw [hx] at this; exact this
      have r1 : wr.cell? ⟨g, i * 5 + 1, none⟩ = some (.int .u64 x.last) := by have := hcells 1 (by decide); rw [hx] at this; exact this
      have r2 : wr.cell? ⟨g, i * 5 + 2, none⟩ = some (.int .i64 x.node) := by have := hcells 2 (by decide); rw [hx] at this; exact this
      have r3 : wr.cell? ⟨g, i * 5 + 3, none⟩ = some (.int .u64 x.life) := by have := hcells 3 (by decide); rw [hx] at this; exact this
      have r4 : wr.cell? ⟨g, i * 5 + 4, none⟩ = some (.int .u64 x.try_) := by have := hcells 4 (by decide); rw [hx] at this; exact this
      have hcall := hs.out x (by rw [← hx]; exact List.getElem_mem hlt) wr l (hz.out.below hb.out)
      replace hcall : Calls Tryz.prog 62 #[.agg #[.int .u64 x.session, .int .u64 x.last, .int .i64 x.node, .int .u64 x.life, .int .u64 x.try_], c0] wr fun e w' => e = .returned (.bool (p x)) ∧ Hid (Below wr.heap.size wr w') := hcall
      have hl1 : (i : Int) < (l.length : Int) := by omega
      cases hq : p x with
      | true =>
        have hfound := Lib.hid (idxI_some hlt (by rw [hx]; exact hq) (fun k hk => hno.out k hk (by omega)) : idxI p l = (i : Int))
        rw [hq] at hcall
        replace hcall := Lib.hid hcall
        replace hx := Lib.hid hx
        clear hcells hq hno
        go_wp2_with fail
        refine hcall.out.mono ?_
        rintro e w1 ⟨rfl, hb1⟩
        have hB := Lib.hid (hb.out.trans (hb1.out.mono hb.out.size))
        clear hcall hb1
        go_wp2_with fail
        go_ret
        exact ⟨_, rfl, Lib.hid hfound.out.symm, hB⟩
      | false =>
        have hno2 : Hid (∀ k (_ : k < i + 1) (h2 : k < l.length), p l[k] = false) := Lib.hid (fun k hk h2 => by
          by_cases e : k = i
          · subst e; rw [hx]; exact hq
          · exact hno.out k (by omega) h2)
        rw [hq] at hcall
        replace hcall := Lib.hid hcall
        replace hx := Lib.hid hx
        clear hcells hq hno
        go_wp2_with fail
        refine hcall.out.mono ?_
        rintro e w1 ⟨rfl, hb1⟩
        have hB := Lib.hid (hb.out.trans (hb1.out.mono hb.out.size))
        clear hcall hb1
        go_wp2_with fail
        go_roundw
        case rel => exact ⟨i + 1, by go_num, by omega, hno2, hB⟩
        case measure => simp [intOf] <;> omega
    · have hnone := Lib.hid (idxI_none (fun k hk => hno.out k (by omega) hk) : idxI p l = -1)
      have hl1 : (l.length : Int) ≤ (i : Int) := by omega
      go_wp2_with fail
      go_ret
      exact ⟨_, rfl, Lib.hid hnone.out.symm, hb⟩
set_option maxRecDepth 100000 in
set_option maxHeartbeats 8000000 in
theorem openDDel_any {W0 W : World} {L : List Th} (v : Value) (l : List St) (p : St → Bool) (c0 : Value) (hlen : l.length ≤ 100000) (hz : Zoo W0 W (stT.row v l :: L)) (hs : SaysZ stT l p L W0 62 #[c0] v) :
    Calls Tryz.prog 60 #[v, .func (.func 62) #[] #[c0]] W fun e w' => ∃ v', e = .returned v' ∧ Hid (Zoo W0 w' (stT.row v' (l.filter (fun x => !p x)) :: L)) := by
  have hfind := Lib.hid (openDFind_any v l p c0 hlen hz hs)
  obtain ⟨ao, cap, hv⟩ := (hz.own 0 rfl).len
  subst hv
  replace hz := Lib.hid hz
  replace hs := Lib.hid hs
  go_enter Tryz.func60, Tryz.ntmps60
  go_wp2_with fail
  refine hfind.out.mono ?_
  rintro e w1 ⟨r, rfl, hr, hb1⟩
  have hz1 := Lib.hid (hz.out.below hb1.out)
  clear hfind hz hb1
  rcases idxI_cases p l with ⟨h1, h2⟩ | ⟨i0, hi0, h1, hp0, hno⟩
  · have hrr : r = -1 := hr.out.trans h1
    subst hrr
    replace h2 := Lib.hid h2
    clear h1 hr
    go_wp2_with fail
    go_ret
    exact ⟨_, rfl, Lib.hid (by rw [h2.out]; exact hz1.out)⟩
  · have hrr : r = (i0 : Int) := hr.out.trans h1
    subst hrr
    have hk0 := Lib.hid (Kept.start hi0 hp0 hno)
    clear h1 hr hp0 hno
    have hne : ((i0 : Int) == -1) = false := by simp
    go_wp2_with fail
    go_loopw [5, 6, 7] (fun v5 v6 _ wr => ∃ (i j : Nat) (cur : List St), v5 = .int .i64 i ∧ v6 = .int .i64 j ∧ i < j ∧ j ≤ l.length ∧ Hid (Kept p l cur i j) ∧ Hid (Zoo W0 wr (stT.row (.slice ao l.length cap) cur :: L))) (fun _ v6 _ _ => l.length - (intOf v6).toNat)
    case atStart => exact ⟨i0, i0 + 1, l, rfl, by go_num, by omega, by omega, hk0, hz1⟩
    case round =>
      clear hk0 hz1 hne
      obtain ⟨i, j, cur, rfl, rfl, hij, hjl, hk, hz⟩ := hrel
      by_cases hlt : j < l.length
      · obtain ⟨g, cap', hv, -, hg, hcells⟩ := (hz.out.own 0 rfl).cells (j := j) (by rw [hk.out.len]; exact hlt)
        rw [hk.out.len] at hv
        injection hv with hv1 hv2 hv3
        subst hv1 hv3
        obtain ⟨x, hx⟩ : ∃ x, l[j] = x := ⟨_, rfl⟩
        have hget := hk.out.get hlt
        rw [hx] at hget
        have r0 : wr.cell? ⟨g, j * 5, none⟩ = some (.int .u64 x.session) := by have := hcells 0 (by decide); rw [hget] at this; exact this
        have r1 : wr.cell? ⟨g, j * 5 + 1, none⟩ = some (.int .u64 x.last) := by have := hcells 1 (by decide); rw [hget] at this; exact this
        have r2 : wr.cell? ⟨g, j * 5 + 2, none⟩ = some (.int .i64 x.node) := by have := hcells 2 (by decide); rw [hget] at this; exact this
        have r3 : wr.cell? ⟨g, j * 5 + 3, none⟩ = some (.int .u64 x.life) := by have := hcells 3 (by decide); rw [hget] at this; exact this
        have r4 : wr.cell? ⟨g, j * 5 + 4, none⟩ = some (.int .u64 x.try_) := by have := hcells 4 (by decide); rw [hget] at this; exact this
        have hzb := hz.out.newBox [.int .u64 x.session, .int .u64 x.last, .int .i64 x.node, .int .u64 x.life, .int .u64 x.try_].toArray 100
        have hcall := hs.out x (by rw [← hx]; exact List.getElem_mem hlt) _ cur hzb.tail
        replace hcall : Calls Tryz.prog 62 #[.agg #[.int .u64 x.session, .int .u64 x.last, .int .i64 x.node, .int .u64 x.life, .int .u64 x.try_], c0] (wr.alloc (.cells #[.int .u64 x.session, .int .u64 x.last, .int .i64 x.node, .int .u64 x.life, .int .u64 x.try_] 100)) fun e w' => e = .returned (.bool (p x)) ∧ Hid (Below (wr.alloc (.cells #[.int .u64 x.session, .int .u64 x.last, .int .i64 x.node, .int .u64 x.life, .int .u64 x.try_] 100)).heap.size (wr.alloc (.cells #[.int .u64 x.session, .int .u64 x.last, .int .i64 x.node, .int .u64 x.life, .int .u64 x.try_] 100)) w') := hcall
        have hl1 : (j : Int) < (l.length : Int) := by omega
        replace hcall := Lib.hid hcall
        replace hzb := Lib.hid hzb
        replace hx := Lib.hid hx
        replace hget := Lib.hid hget
        clear hcells
        go_wp2_with fail
        refine hcall.out.mono ?_
        rintro e w1 ⟨rfl, hb1⟩
        have hz2 := hzb.out.below hb1.out
        obtain ⟨hbx, -⟩ := hz2.box 0 rfl
        generalize hB : wr.heap.size = B at hbx hz2 ⊢
        have b0 : w1.cell? ⟨B, 0, none⟩ = some (.int .u64 x.session) := box_cell hbx 0
        have b1 : w1.cell? ⟨B, 1, none⟩ = some (.int .u64 x.last) := box_cell hbx 1
        have b2 : w1.cell? ⟨B, 2, none⟩ = some (.int .i64 x.node) := box_cell hbx 2
        have b3 : w1.cell? ⟨B, 3, none⟩ = some (.int .u64 x.life) := box_cell hbx 3
        have b4 : w1.cell? ⟨B, 4, none⟩ = some (.int .u64 x.try_) := box_cell hbx 4
        have hkj := hk.out
        cases hq : p x with
        | true =>
          have hk2 := Lib.hid (hkj.skip hlt (by rw [hx.out]; exact hq))
          have hz3 := Lib.hid hz2.tail
          clear hcall hb1 hzb hz2 hbx hkj hq hk hz hB r0 r1 r2 r3 r4 hx hget
          go_wp2_with fail
          go_roundw
          case rel => exact ⟨i, j + 1, cur, rfl, by go_num, by omega, by omega, hk2, hz3⟩
          case measure => simp [intOf] <;> omega
        | false =>
          have hk2 := Lib.hid (hkj.keep hlt (by rw [hx.out]; exact hq))
          rw [hx.out] at hk2
          obtain ⟨g', cap', hv, -, hg2, hcl, hfr, hz3⟩ := hz2.put5 1 rfl rfl i (by rw [hkj.len]; omega) x (.int .u64 x.session) (.int .u64 x.last) (.int .i64 x.node) (.int .u64 x.life) (.int .u64 x.try_) rfl
          rw [hkj.len] at hv
          injection hv with e1 e2 e3
          injection e1 with e1
          injection e1 with e1
          subst e1 e3
          have k0 := hcl 0 (by decide)
          have k1 := hcl 1 (by decide)
          have k2 := hcl 2 (by decide)
          have k3 := hcl 3 (by decide)
          have k4 := hcl 4 (by decide)
          generalize cur[i]'(by rw [hkj.len]; omega) = old at k0 k1 k2 k3 k4
          obtain ⟨o0, o1, o2, o3, o4, ho⟩ : ∃ o0 o1 o2 o3 o4, (stT.enc old) = [o0, o1, o2, o3, o4] := ⟨_, _, _, _, _, rfl⟩
          rw [ho] at k0 k1 k2 k3 k4
          replace k0 : w1.cell? ⟨g, i * 5, none⟩ = some o0 := k0
          replace k1 : w1.cell? ⟨g, i * 5 + 1, none⟩ = some o1 := k1
          replace k2 : w1.cell? ⟨g, i * 5 + 2, none⟩ = some o2 := k2
          replace k3 : w1.cell? ⟨g, i * 5 + 3, none⟩ = some o3 := k3
          replace k4 : w1.cell? ⟨g, i * 5 + 4, none⟩ = some o4 := k4
          have f0 := hfr (i * 5)
          have f1 := hfr (i * 5 + 1)
          have f2 := hfr (i * 5 + 2)
          have f3 := hfr (i * 5 + 3)
          have f4 := hfr (i * 5 + 4)
          replace hz3 := Lib.hid hz3.tail
          have hil : (i : Int) < (l.length : Int) := by omega
          have hi2 : i < l.length := by omega
          clear hcall hb1 hzb hz2 hbx hkj hq hk hz hB r0 r1 r2 r3 r4 hx hget hcl hfr ho
          go_wp2_with fail
          go_roundw
          case rel => exact ⟨i + 1, j + 1, _, by go_num, by go_num, by omega, by omega, hk2, hz3⟩
          case measure => simp [intOf] <;> omega
      · obtain rfl : j = l.length := by omega
        have hl1 : (l.length : Int) ≤ (l.length : Int) := by omega
        obtain ⟨g, cap', hv, hcc, hcl, hz2⟩ := hz.out.clear 0 rfl (⟨0, 0, 0, 0, 0⟩ : St) rfl i (l.length - i) (by omega) (by have := hk.out.len; omega)
        rw [hk.out.len] at hv hcc
        injection hv with e1 e2 e3
        subst e1 e3
        rw [show stT.K = 5 from rfl] at hz2 hcl
        have hall := hk.out.all
        replace hz2 : Hid (Zoo W0 (wr.setCells g (i * 5) (stT.cells (List.replicate (l.length - i) (⟨0, 0, 0, 0, 0⟩ : St)))) (stT.row (.slice (some ⟨g, 0, none⟩) i cap) (l.filter (fun x => !p x)) :: L)) := Lib.hid (by rw [← hall]; exact hz2)
        generalize wr.setCells g (i * 5) (stT.cells (List.replicate (l.length - i) (⟨0, 0, 0, 0, 0⟩ : St))) = wc at hcl hz2
        have hcl2 : ∀ ty, (Builtin.clear_ #[25] ty #[.slice (some ⟨g, i * 5, none⟩) (l.length - i) (cap - i)]).run Tryz.prog wr = .ok (.tuple #[]) wc := fun ty => hcl _ ty
        have hic : i < l.length := hij
        clear hk hz hall hcl
        go_wp2_with fail
        go_ret
        exact ⟨_, rfl, hz2⟩
set_option maxRecDepth 100000 in
set_option maxHeartbeats 4000000 in
theorem goesFind_any {W0 W : World} {L : List Th} (v : Value) (l : List LtV) (p : LtV → Bool) (c0 c1 : Value) (hlen : l.length ≤ 100000) (hz : Zoo W0 W (ltT.row v l :: L)) (hs : SaysZ ltT l p L W0 75 #[c0, c1] v) :
    Calls Tryz.prog 47 #[v, .func (.func 75) #[] #[c0, c1]] W fun e w' => ∃ r : Int, e = .returned (.int .i64 r) ∧ Hid (r = idxI p l) ∧ Hid (Below W.heap.size W w') := by
  obtain ⟨ao, cap, hv⟩ := (hz.own 0 rfl).len
  subst hv
  replace hz := Lib.hid hz
  replace hs := Lib.hid hs
  go_enter Tryz.func47, Tryz.ntmps47
  go_wp2_with fail
  go_loopw [8] (fun v8 wr => ∃ i : Nat, v8 = .int .i64 i ∧ i ≤ l.length ∧ Hid (∀ k (_ : k < i) (h2 : k < l.length), p l[k] = false) ∧ Hid (Below W.heap.size W wr)) (fun v8 _ => l.length - (intOf v8).toNat)
  case atStart => exact ⟨0, rfl, Nat.zero_le _, Lib.hid (fun k hk => by omega), Lib.hid (Below.refl _ _)⟩
  case round =>
    obtain ⟨i, rfl, hi, hno, hb⟩ := hrel
    by_cases hlt : i < l.length
    · obtain ⟨g, cap', hv, -, -, hcells⟩ := ((hz.out.below hb.out).own 0 rfl).cells hlt
      injection hv with hv1 hv2 hv3
      subst hv1 hv3
      obtain ⟨x, hx⟩ : ∃ x, l[i] = x := ⟨_, rfl⟩
      have r0 : wr.cell? ⟨g, i * 5, none⟩ = some (.int .u64 x.x.uid) := by have := hcells 0 (by decide); rw [hx] at this; exact this
      have r1 : wr.cell? ⟨g, i * 5 + 1, none⟩ = some (.slice x.a x.x.flags.length x.c) := by have := hcells 1 (by decide); rw [hx] at this; exact this
      have r2 : wr.cell? ⟨g, i * 5 + 2, none⟩ = some (.int .u64 x.x.mod) := by have := hcells 2 (by decide); rw [hx] at this; exact this
      have r3 : wr.cell? ⟨g, i * 5 + 3, none⟩ = some (.string x.x.hash) := by have := hcells 3 (by decide); rw [hx] at this; exact this
      have r4 : wr.cell? ⟨g, i * 5 + 4, none⟩ = some (.int .u64 x.x.size) := by have := hcells 4 (by decide); rw [hx] at this; exact this
      have hcall := hs.out x (by rw [← hx]; exact List.getElem_mem hlt) wr l (hz.out.below hb.out)
      replace hcall : Calls Tryz.prog 75 #[.agg #[.int .u64 x.x.uid, .slice x.a x.x.flags.length x.c, .int .u64 x.x.mod, .string x.x.hash, .int .u64 x.x.size], c0, c1] wr fun e w' => e = .returned (.bool (p x)) ∧ Hid (Below wr.heap.size wr w') := hcall
      have hl1 : (i : Int) < (l.length : Int) := by omega
      cases hq : p x with
      | true =>
        have hfound := Lib.hid (idxI_some hlt (by rw [hx]; exact hq) (fun k hk => hno.out k hk (by omega)) : idxI p l = (i : Int))
        rw [hq] at hcall
        replace hcall := Lib.hid hcall
        replace hx := Lib.hid hx
        clear hcells hq hno
        go_wp2_with fail
        refine hcall.out.mono ?_
        rintro e w1 ⟨rfl, hb1⟩
        have hB := Lib.hid (hb.out.trans (hb1.out.mono hb.out.size))
        clear hcall hb1
        go_wp2_with fail
        go_ret
        exact ⟨_, rfl, Lib.hid hfound.out.symm, hB⟩
      | false =>
        have hno2 : Hid (∀ k (_ : k < i + 1) (h2 : k < l.length), p l[k] = false) := Lib.hid (fun k hk h2 => by
          by_cases e : k = i
          · subst e; rw [hx]; exact hq
          · exact hno.out k (by omega) h2)
        rw [hq] at hcall
        replace hcall := Lib.hid hcall
        replace hx := Lib.hid hx
        clear hcells hq hno
        go_wp2_with fail
        refine hcall.out.mono ?_
        rintro e w1 ⟨rfl, hb1⟩
        have hB := Lib.hid (hb.out.trans (hb1.out.mono hb.out.size))
        clear hcall hb1
        go_wp2_with fail
        go_roundw
        case rel => exact ⟨i + 1, by go_num, by omega, hno2, hB⟩
        case measure => simp [intOf] <;> omega
    · have hnone := Lib.hid (idxI_none (fun k hk => hno.out k (by omega) hk) : idxI p l = -1)
      have hl1 : (l.length : Int) ≤ (i : Int) := by omega
      go_wp2_with fail
      go_ret
      exact ⟨_, rfl, Lib.hid hnone.out.symm, hb⟩
set_option maxRecDepth 100000 in
set_option maxHeartbeats 8000000 in
theorem goesDel_any {W0 W : World} {L : List Th} (v : Value) (l : List LtV) (p : LtV → Bool) (c0 c1 : Value) (hlen : l.length ≤ 100000) (hz : Zoo W0 W (ltT.row v l :: L)) (hs : SaysZ ltT l p L W0 75 #[c0, c1] v) :
    Calls Tryz.prog 77 #[v, .func (.func 75) #[] #[c0, c1]] W fun e w' => ∃ v', e = .returned v' ∧ Hid (Zoo W0 w' (ltT.row v' (l.filter (fun x => !p x)) :: L)) := by
  have hfind := Lib.hid (goesFind_any v l p c0 c1 hlen hz hs)
  obtain ⟨ao, cap, hv⟩ := (hz.own 0 rfl).len
  subst hv
  replace hz := Lib.hid hz
  replace hs := Lib.hid hs
  go_enter Tryz.func77, Tryz.ntmps77
  go_wp2_with fail
  refine hfind.out.mono ?_
  rintro e w1 ⟨r, rfl, hr, hb1⟩
  have hz1 := Lib.hid (hz.out.below hb1.out)
  clear hfind hz hb1
  rcases idxI_cases p l with ⟨h1, h2⟩ | ⟨i0, hi0, h1, hp0, hno⟩
  · have hrr : r = -1 := hr.out.trans h1
    subst hrr
    replace h2 := Lib.hid h2
    clear h1 hr
    go_wp2_with fail
    go_ret
    exact ⟨_, rfl, Lib.hid (by rw [h2.out]; exact hz1.out)⟩
  · have hrr : r = (i0 : Int) := hr.out.trans h1
    subst hrr
    have hk0 := Lib.hid (Kept.start hi0 hp0 hno)
    clear h1 hr hp0 hno
    have hne : ((i0 : Int) == -1) = false := by simp
    go_wp2_with fail
    go_loopw [5, 6, 7] (fun v5 v6 _ wr => ∃ (i j : Nat) (cur : List LtV), v5 = .int .i64 i ∧ v6 = .int .i64 j ∧ i < j ∧ j ≤ l.length ∧ Hid (Kept p l cur i j) ∧ Hid (Zoo W0 wr (ltT.row (.slice ao l.length cap) cur :: L))) (fun _ v6 _ _ => l.length - (intOf v6).toNat)
    case atStart => exact ⟨i0, i0 + 1, l, rfl, by go_num, by omega, by omega, hk0, hz1⟩
    case round =>
      clear hk0 hz1 hne
      obtain ⟨i, j, cur, rfl, rfl, hij, hjl, hk, hz⟩ := hrel
      by_cases hlt : j < l.length
      · obtain ⟨g, cap', hv, -, hg, hcells⟩ := (hz.out.own 0 rfl).cells (j := j) (by rw [hk.out.len]; exact hlt)
        rw [hk.out.len] at hv
        injection hv with hv1 hv2 hv3
        subst hv1 hv3
        obtain ⟨x, hx⟩ : ∃ x, l[j] = x := ⟨_, rfl⟩
        have hget := hk.out.get hlt
        rw [hx] at hget
        have r0 : wr.cell? ⟨g, j * 5, none⟩ = some (.int .u64 x.x.uid) := by have := hcells 0 (by decide); rw [hget] at this; exact this
        have r1 : wr.cell? ⟨g, j * 5 + 1, none⟩ = some (.slice x.a x.x.flags.length x.c) := by have := hcells 1 (by decide); rw [hget] at this; exact this
        have r2 : wr.cell? ⟨g, j * 5 + 2, none⟩ = some (.int .u64 x.x.mod) := by have := hcells 2 (by decide); rw [hget] at this; exact this
        have r3 : wr.cell? ⟨g, j * 5 + 3, none⟩ = some (.string x.x.hash) := by have := hcells 3 (by decide); rw [hget] at this; exact this
        have r4 : wr.cell? ⟨g, j * 5 + 4, none⟩ = some (.int .u64 x.x.size) := by have := hcells 4 (by decide); rw [hget] at this; exact this
        have hzb := hz.out.newBox [.int .u64 x.x.uid, .slice x.a x.x.flags.length x.c, .int .u64 x.x.mod, .string x.x.hash, .int .u64 x.x.size].toArray 66
        have hcall := hs.out x (by rw [← hx]; exact List.getElem_mem hlt) _ cur hzb.tail
        replace hcall : Calls Tryz.prog 75 #[.agg #[.int .u64 x.x.uid, .slice x.a x.x.flags.length x.c, .int .u64 x.x.mod, .string x.x.hash, .int .u64 x.x.size], c0, c1] (wr.alloc (.cells #[.int .u64 x.x.uid, .slice x.a x.x.flags.length x.c, .int .u64 x.x.mod, .string x.x.hash, .int .u64 x.x.size] 66)) fun e w' => e = .returned (.bool (p x)) ∧ Hid (Below (wr.alloc (.cells #[.int .u64 x.x.uid, .slice x.a x.x.flags.length x.c, .int .u64 x.x.mod, .string x.x.hash, .int .u64 x.x.size] 66)).heap.size (wr.alloc (.cells #[.int .u64 x.x.uid, .slice x.a x.x.flags.length x.c, .int .u64 x.x.mod, .string x.x.hash, .int .u64 x.x.size] 66)) w') := hcall
        have hl1 : (j : Int) < (l.length : Int) := by omega
        replace hcall := Lib.hid hcall
        replace hzb := Lib.hid hzb
        replace hx := Lib.hid hx
        replace hget := Lib.hid hget
        clear hcells
        go_wp2_with fail
        refine hcall.out.mono ?_
        rintro e w1 ⟨rfl, hb1⟩
        have hz2 := hzb.out.below hb1.out
        obtain ⟨hbx, -⟩ := hz2.box 0 rfl
        generalize hB : wr.heap.size = B at hbx hz2 ⊢
        have b0 : w1.cell? ⟨B, 0, none⟩ = some (.int .u64 x.x.uid) := box_cell hbx 0
        have b1 : w1.cell? ⟨B, 1, none⟩ = some (.slice x.a x.x.flags.length x.c) := box_cell hbx 1
        have b2 : w1.cell? ⟨B, 2, none⟩ = some (.int .u64 x.x.mod) := box_cell hbx 2
        have b3 : w1.cell? ⟨B, 3, none⟩ = some (.string x.x.hash) := box_cell hbx 3
        have b4 : w1.cell? ⟨B, 4, none⟩ = some (.int .u64 x.x.size) := box_cell hbx 4
        have hkj := hk.out
        cases hq : p x with
        | true =>
          have hk2 := Lib.hid (hkj.skip hlt (by rw [hx.out]; exact hq))
          have hz3 := Lib.hid hz2.tail
          clear hcall hb1 hzb hz2 hbx hkj hq hk hz hB r0 r1 r2 r3 r4 hx hget
          go_wp2_with fail
          go_roundw
          case rel => exact ⟨i, j + 1, cur, rfl, by go_num, by omega, by omega, hk2, hz3⟩
          case measure => simp [intOf] <;> omega
        | false =>
          have hk2 := Lib.hid (hkj.keep hlt (by rw [hx.out]; exact hq))
          rw [hx.out] at hk2
          obtain ⟨g', cap', hv, -, hg2, hcl, hfr, hz3⟩ := hz2.put5 1 rfl rfl i (by rw [hkj.len]; omega) x (.int .u64 x.x.uid) (.slice x.a x.x.flags.length x.c) (.int .u64 x.x.mod) (.string x.x.hash) (.int .u64 x.x.size) rfl
          rw [hkj.len] at hv
          injection hv with e1 e2 e3
          injection e1 with e1
          injection e1 with e1
          subst e1 e3
          have k0 := hcl 0 (by decide)
          have k1 := hcl 1 (by decide)
          have k2 := hcl 2 (by decide)
          have k3 := hcl 3 (by decide)
          have k4 := hcl 4 (by decide)
          generalize cur[i]'(by rw [hkj.len]; omega) = old at k0 k1 k2 k3 k4
          obtain ⟨o0, o1, o2, o3, o4, ho⟩ : ∃ o0 o1 o2 o3 o4, (ltT.enc old) = [o0, o1, o2, o3, o4] := ⟨_, _, _, _, _, rfl⟩
          rw [ho] at k0 k1 k2 k3 k4
          replace k0 : w1.cell? ⟨g, i * 5, none⟩ = some o0 := k0
          replace k1 : w1.cell? ⟨g, i * 5 + 1, none⟩ = some o1 := k1
          replace k2 : w1.cell? ⟨g, i * 5 + 2, none⟩ = some o2 := k2
          replace k3 : w1.cell? ⟨g, i * 5 + 3, none⟩ = some o3 := k3
          replace k4 : w1.cell? ⟨g, i * 5 + 4, none⟩ = some o4 := k4
          have f0 := hfr (i * 5)
          have f1 := hfr (i * 5 + 1)
          have f2 := hfr (i * 5 + 2)
          have f3 := hfr (i * 5 + 3)
          have f4 := hfr (i * 5 + 4)
          replace hz3 := Lib.hid hz3.tail
          have hil : (i : Int) < (l.length : Int) := by omega
          have hi2 : i < l.length := by omega
          clear hcall hb1 hzb hz2 hbx hkj hq hk hz hB r0 r1 r2 r3 r4 hx hget hcl hfr ho
          go_wp2_with fail
          go_roundw
          case rel => exact ⟨i + 1, j + 1, _, by go_num, by go_num, by omega, by omega, hk2, hz3⟩
          case measure => simp [intOf] <;> omega
      · obtain rfl : j = l.length := by omega
        have hl1 : (l.length : Int) ≤ (l.length : Int) := by omega
        obtain ⟨g, cap', hv, hcc, hcl, hz2⟩ := hz.out.clear 0 rfl (⟨⟨0, [], 0, ⟨#[]⟩, 0⟩, none, 0⟩ : LtV) rfl i (l.length - i) (by omega) (by have := hk.out.len; omega)
        rw [hk.out.len] at hv hcc
        injection hv with e1 e2 e3
        subst e1 e3
        rw [show ltT.K = 5 from rfl] at hz2 hcl
        have hall := hk.out.all
        replace hz2 : Hid (Zoo W0 (wr.setCells g (i * 5) (ltT.cells (List.replicate (l.length - i) (⟨⟨0, [], 0, ⟨#[]⟩, 0⟩, none, 0⟩ : LtV)))) (ltT.row (.slice (some ⟨g, 0, none⟩) i cap) (l.filter (fun x => !p x)) :: L)) := Lib.hid (by rw [← hall]; exact hz2)
        generalize wr.setCells g (i * 5) (ltT.cells (List.replicate (l.length - i) (⟨⟨0, [], 0, ⟨#[]⟩, 0⟩, none, 0⟩ : LtV))) = wc at hcl hz2
        have hcl2 : ∀ ty, (Builtin.clear_ #[31] ty #[.slice (some ⟨g, i * 5, none⟩) (l.length - i) (cap - i)]).run Tryz.prog wr = .ok (.tuple #[]) wc := fun ty => hcl _ ty
        have hic : i < l.length := hij
        clear hk hz hall hcl
        go_wp2_with fail
        go_ret
        exact ⟨_, rfl, hz2⟩
end Go.Proofs.YtcnebfmlelcliaaGreat
namespace Go.Proofs.YtcnebfmlelcliaaGreat
open Go.RowKit

def encStr (l : List UInt8) : Value := .string ⟨l.toArray⟩
def mkBq (l : List UInt8) : ByteArray := ⟨l.toArray⟩
theorem mkBq_list (l : List UInt8) : (mkBq l).data.toList = l := rfl
theorem mkB_eta (s : ByteArray) : mkBq s.data.toList = s := rfl
theorem size_of_list {u : ByteArray} {l : List UInt8} (h : u.data.toList = l) : u.size = l.length := by rw [← h]; rfl
theorem heap_pos {W : World} {m : Int} (h : W.cell? ⟨0, 0, none⟩ = some (.int .i64 m)) : 1 ≤ W.heap.size := by
  have := World.block_lt_of_cell? W ⟨0, 0, none⟩ h
  show 1 ≤ _; have h2 : 0 < W.heap.size := this; omega
theorem boxed_below {W W' : World} {B : Nat} {t : TypeId} {v : Value} (h : Boxed W B t v) (hb : Below W.heap.size W W') : Boxed W' B t v := (hb.block B h.lt).trans h
theorem heap_below {W W' : World} {b : Nat} {o : Obj} (h : W.heap[b]? = some o) (hb : Below W.heap.size W W') : W'.heap[b]? = some o := (hb.block b (Array.getElem?_eq_some_iff.1 h).1).trans h
theorem cells_new (w : World) (C : Array Value) (t : TypeId) : (w.alloc (.cells C t)).heap[w.heap.size]? = some (.cells C t (0, 0)) := heap_alloc_new w _
theorem cells_kept {w : World} {b : Nat} {o : Obj} (h : w.heap[b]? = some o) (o' : Obj) : (w.alloc o').heap[b]? = some o := heap_below h ((Below.refl _ w).alloc (Nat.le_refl _) _)
/-- cut at each byte c -/
def spl (c : UInt8) : List UInt8 → List (List UInt8)
  | [] => [[]]
  | b :: l => if b = c then [] :: spl c l else match spl c l with
    | [] => [[b]]
    | x :: r => (b :: x) :: r
theorem spl_ne (c : UInt8) : ∀ l, spl c l ≠ []
  | [] => by simp [spl]
  | b :: l => by
    rw [spl]
    split
    · simp
    · split <;> simp
theorem spl_skip (c b : UInt8) (l : List UInt8) (h : b ≠ c) : ∃ x r, spl c l = x :: r ∧ spl c (b :: l) = (b :: x) :: r := by
  cases hs : spl c l with
  | nil => exact absurd hs (spl_ne c l)
  | cons x r => exact ⟨x, r, rfl, by rw [spl, if_neg h, hs]⟩
theorem spl_cut (c : UInt8) : ∀ (l : List UInt8) (i : Nat), Lib.indexByte l c = i → spl c l = l.take i :: spl c (l.drop (i + 1)) ∧ l.count c = 1 + (l.drop (i + 1)).count c ∧ i < l.length
  | [], i, h => by simp [Lib.indexByte] at h
  | b :: l, i, h => by
    rw [Lib.indexByte] at h
    by_cases hb : b = c
    · subst hb
      simp at h
      obtain rfl : i = 0 := by omega
      exact ⟨by simp [spl], by simp; omega, by simp⟩
    · rw [if_neg (by simpa using hb)] at h
      have hge := Lib.indexByte_ge l c
      by_cases hm : Lib.indexByte l c = -1
      · rw [hm] at h; simp at h
      · rw [if_neg (by simpa using hm)] at h
        obtain ⟨j, rfl⟩ : ∃ j, i = j + 1 := ⟨i - 1, by omega⟩
        obtain ⟨h1, h2, h3⟩ := spl_cut c l j (by omega)
        obtain ⟨x, r, e1, e2⟩ := spl_skip c b l hb
        rw [h1] at e1
        injection e1 with e3 e4
        refine ⟨by rw [e2, ← e3, ← e4]; rfl, ?_, by simp; omega⟩
        rw [List.drop_succ_cons, List.count_cons_of_ne (by simpa using hb)]
        exact h2
theorem spl_none (c : UInt8) : ∀ l : List UInt8, Lib.indexByte l c = -1 → spl c l = [l] ∧ l.count c = 0
  | [], _ => ⟨rfl, rfl⟩
  | b :: l, h => by
    rw [Lib.indexByte] at h
    have hge := Lib.indexByte_ge l c
    by_cases hb : b = c
    · subst hb; simp at h
    · rw [if_neg (by simpa using hb)] at h
      by_cases hm : Lib.indexByte l c = -1
      · obtain ⟨h1, h2⟩ := spl_none c l hm
        refine ⟨?_, by rw [List.count_cons_of_ne (by simpa using hb)]; exact h2⟩
        rw [spl, if_neg hb, h1]
      · rw [if_neg (by simpa using hm)] at h; omega
theorem splitK_spl (c : UInt8) : ∀ (k : Nat) (l : List UInt8), l.count c = k → Lib.splitK [c] 0 k l = spl c l
  | 0, l, h => by
    have : Lib.indexByte l c = -1 := by
      have hge := Lib.indexByte_ge l c
      by_cases hm : Lib.indexByte l c = -1
      · exact hm
      · have := (spl_cut c l (Lib.indexByte l c).toNat (by omega)).2.1
        omega
    rw [(spl_none c l this).1]; rfl
  | k + 1, l, h => by
    rw [Lib.splitK, Lib.index_one]
    by_cases hm : Lib.indexByte l c = -1
    · have := (spl_none c l hm).2; omega
    · have hge := Lib.indexByte_ge l c
      obtain ⟨h1, h2, h3⟩ := spl_cut c l (Lib.indexByte l c).toNat (by omega)
      rw [if_neg (by simpa using hm), h1, Nat.add_zero]
      congr 1
      exact splitK_spl c k _ (by simp only [List.length_singleton]; omega)
theorem splitB_spl (c : UInt8) (s : ByteArray) : (Lib.splitB ⟨#[c]⟩ 0 (Lib.countB s ⟨#[c]⟩) s).map (·.data.toList) = spl c s.data.toList := by
  rw [Lib.splitB_data]
  have e : Lib.countB s ⟨#[c]⟩ = s.data.toList.count c := Lib.count_one c s.data.toList
  rw [e]
  exact splitK_spl c _ _ rfl
theorem spl_len (c : UInt8) (l : List UInt8) : (spl c l).length ≤ l.length + 1 := by
  induction l with
  | nil => simp [spl]
  | cons b l ih =>
    rw [spl]
    split
    · simp; exact ih
    · split
      · simp
      · rename_i x r h; rw [h] at ih; simp at ih ⊢; omega
theorem spl_short (c : UInt8) (l : List UInt8) : ∀ x ∈ spl c l, x.length ≤ l.length := by
  induction l with
  | nil => simp [spl]
  | cons b l ih =>
    rw [spl]
    split
    · intro x hx
      rcases List.mem_cons.1 hx with rfl | hx
      · simp
      · have := ih x hx; simp; omega
    · split
      · simp
      · rename_i y r h
        rw [h] at ih
        intro x hx
        rcases List.mem_cons.1 hx with rfl | hx
        · have := ih y (by simp); simp; omega
        · have := ih x (by simp [hx]); simp; omega
theorem spl_snoc_ne (c b : UInt8) (hb : b ≠ c) : ∀ (l : List UInt8) (out : List (List UInt8)) (x : List UInt8), spl c l = out ++ [x] → spl c (l ++ [b]) = out ++ [x ++ [b]]
  | [], out, x, h => by
    have h' : [[]] = out ++ [x] := h
    have hl := congrArg List.length h'
    simp at hl
    subst hl
    simp at h'
    subst h'
    simp [spl, hb]
  | y :: l, out, x, h => by
    by_cases hy : y = c
    · rw [spl, if_pos hy] at h
      rw [List.cons_append, spl, if_pos hy]
      cases out with
      | nil =>
        simp at h
        exact absurd h.2 (spl_ne c l)
      | cons o r =>
        simp only [List.cons_append, List.cons.injEq] at h ⊢
        exact ⟨h.1, spl_snoc_ne c b hb l r x h.2⟩
    · obtain ⟨z, r, e1, e2⟩ := spl_skip c y l hy
      rw [e2] at h
      obtain ⟨z2, r2, e3, e4⟩ := spl_skip c y (l ++ [b]) hy
      rw [List.cons_append, e4]
      cases out with
      | nil =>
        simp only [List.nil_append, List.cons.injEq] at h
        have h5 := spl_snoc_ne c b hb l [] z (by rw [e1, h.2]; rfl)
        rw [e3] at h5
        simp only [List.nil_append, List.cons.injEq] at h5 ⊢
        exact ⟨by rw [h5.1, ← h.1]; rfl, h5.2⟩
      | cons o q =>
        simp only [List.cons_append, List.cons.injEq] at h ⊢
        have h5 := spl_snoc_ne c b hb l (z :: q) x (by rw [e1, h.2]; rfl)
        rw [e3] at h5
        simp only [List.cons_append, List.cons.injEq] at h5
        exact ⟨by rw [h5.1]; exact h.1, h5.2⟩
theorem spl_snoc_eq (c : UInt8) : ∀ l : List UInt8, spl c (l ++ [c]) = spl c l ++ [[]]
  | [] => by simp [spl]
  | y :: l => by
    by_cases hy : y = c
    · rw [List.cons_append, spl, if_pos hy, spl, if_pos hy, spl_snoc_eq c l]; rfl
    · obtain ⟨z, r, e1, e2⟩ := spl_skip c y l hy
      obtain ⟨z2, r2, e3, e4⟩ := spl_skip c y (l ++ [c]) hy
      rw [List.cons_append, e4, e2]
      rw [spl_snoc_eq c l, e1] at e3
      simp only [List.cons_append, List.cons.injEq] at e3
      obtain ⟨rfl, rfl⟩ := e3
      rfl
/-! ranges in memory: two cells each -/
abbrev Rng := Nat × Nat
/-- the ranges lie in v, in a block below B -/
def RangesIn (w : World) (B : Nat) (v : Value) (rs : List Rng) : Prop := ∃ ao cap, v = .slice ao rs.length cap ∧ (rs = [] ∨ ∃ b o, ao = some ⟨b, o, none⟩ ∧ b < B ∧ rs.length ≤ cap ∧ ∀ j, (h : j < rs.length) → w.cell? ⟨b, o + j * 2, none⟩ = some (.int .u64 rs[j].1) ∧ w.cell? ⟨b, o + j * 2 + 1, none⟩ = some (.int .u64 rs[j].2))
theorem RangesIn.later {w w' : World} {B : Nat} {v : Value} {rs : List Rng} (h : RangesIn w B v rs) (hb : Below B w w') : RangesIn w' B v rs := by
  obtain ⟨ao, cap, hv, h | ⟨b, o, ha, hlt, hle, hc⟩⟩ := h
  · exact ⟨ao, cap, hv, .inl h⟩
  · exact ⟨ao, cap, hv, .inr ⟨b, o, ha, hlt, hle, fun j hj => ⟨(hb.cell (p := ⟨b, o + j * 2, none⟩) hlt).trans (hc j hj).1, (hb.cell (p := ⟨b, o + j * 2 + 1, none⟩) hlt).trans (hc j hj).2⟩⟩⟩
theorem RangesIn.mono {w : World} {B B' : Nat} {v : Value} {rs : List Rng} (h : RangesIn w B v rs) (hb : B ≤ B') : RangesIn w B' v rs := by
  obtain ⟨ao, cap, hv, h | ⟨b, o, ha, hlt, hle, hc⟩⟩ := h
  · exact ⟨ao, cap, hv, .inl h⟩
  · exact ⟨ao, cap, hv, .inr ⟨b, o, ha, by omega, hle, hc⟩⟩
theorem RangesIn.on {w w' : World} {v : Value} {rs : List Rng} (h : RangesIn w w.heap.size v rs) (hb : Below w.heap.size w w') : RangesIn w' w'.heap.size v rs := (h.later hb).mono hb.size
def rngCells (r : Rng) : List Value := [.int .u64 r.1, .int .u64 r.2]
def rangesCells (rs : List Rng) : List Value := rs.flatMap rngCells
theorem rangesCells_len : ∀ (rs : List Rng), (rangesCells rs).length = rs.length * 2
  | [] => rfl
  | k :: r => by
    have := rangesCells_len r
    unfold rangesCells at this ⊢
    rw [List.flatMap_cons, List.length_append, this, List.length_cons]
    show 2 + _ = _
    omega
theorem rangesCells_app (a b : List Rng) : rangesCells (a ++ b) = rangesCells a ++ rangesCells b := List.flatMap_append
theorem rangesCells_get : ∀ (rs : List Rng) (j : Nat) (hj : j < rs.length) (r : Nat), r < 2 → (rangesCells rs)[j * 2 + r]? = (rngCells rs[j])[r]?
  | k :: l, 0, _, r, hr => by
    unfold rangesCells
    rw [List.flatMap_cons, List.getElem?_append_left (by show _ < 2; omega)]
    simp
  | k :: l, j + 1, hj, r, hr => by
    have := rangesCells_get l j (by simpa using hj) r hr
    unfold rangesCells at this ⊢
    rw [List.flatMap_cons, List.getElem?_append_right (by show 2 ≤ _; omega), List.getElem_cons_succ, ← this]
    congr 1
    show (j + 1) * 2 + r - 2 = _
    omega
theorem rangesCells_one : ∀ (rs : List Rng), ∀ u ∈ rangesCells rs, u.oneCell' = true := fun rs u hu => by
  obtain ⟨k, _, hk⟩ := List.mem_flatMap.1 hu
  simp only [rngCells, List.mem_cons, List.not_mem_nil, or_false] at hk
  rcases hk with rfl | rfl <;> rfl
/-- v holds the ranges rs, in a row of the call's own from block B on -/
def OwnR (w : World) (B : Nat) (v : Value) (rs : List Rng) : Prop := w.ownsRow B 60 2 v rs.length (rangesCells rs)
theorem OwnR.nil (w : World) (B : Nat) : OwnR w B (.slice none 0 0) [] := World.ownsRow_nil _ _ _ _
theorem OwnR.alloc {w : World} {B : Nat} {v : Value} {rs : List Rng} (h : OwnR w B v rs) (o : Obj) : OwnR (w.alloc o) B v rs := World.ownsRow.alloc h o
theorem OwnR.below {w w' : World} {B : Nat} {v : Value} {rs : List Rng} (h : OwnR w B v rs) (hb : Below w.heap.size w w') : OwnR w' B v rs :=
  World.ownsRow.kept (row := none) h ⟨hb.os, hb.tape, hb.output, hb.size, fun k hk _ => hb.block k hk⟩ (by cases hv : v.ownBlock <;> simp)
theorem OwnR.len {w : World} {B : Nat} {v : Value} {rs : List Rng} (h : OwnR w B v rs) : ∃ a c, v = .slice a rs.length c := by
  rcases h.2 with ⟨rfl, hn⟩ | ⟨g, cap, cur, rfl, _⟩
  · exact ⟨none, 0, by rw [hn]⟩
  · exact ⟨_, _, rfl⟩
theorem rng_info : (Tryz.prog.info? 60).map (fun i => (i.zero, i.size, i.bytes)) = some (some (.agg #[.int .u64 0, .int .u64 0]), 2, 16) := by kernel_rfl
theorem Rd.ranges {w : World} {v : Value} {rs : List Rng} (h : Rd w v rs.length (rangesCells rs)) : RangesIn w w.heap.size v rs := by
  obtain ⟨ao, cap, hv, h⟩ := h
  refine ⟨ao, cap, hv, ?_⟩
  rcases h with h | ⟨b, o, ha, hlt, hle, hc⟩
  · exact .inl (List.eq_nil_of_length_eq_zero h)
  · refine .inr ⟨b, o, ha, hlt, hle, fun j hj => ?_⟩
    have g := fun r (hr : r < 2) u (hu : (rngCells rs[j])[r]? = some u) => hc (j * 2 + r) u (by rw [rangesCells_get rs j hj r hr]; exact hu)
    exact ⟨g 0 (by decide) _ rfl, g 1 (by decide) _ rfl⟩
theorem RangesIn.rd {w : World} {v : Value} {rs : List Rng} (h : RangesIn w w.heap.size v rs) : Rd w v rs.length (rangesCells rs) := by
  obtain ⟨ao, cap, hv, h⟩ := h
  refine ⟨ao, cap, hv, ?_⟩
  rcases h with h | ⟨b, o, ha, hlt, hle, hc⟩
  · exact .inl (by rw [h]; rfl)
  · refine .inr ⟨b, o, ha, hlt, hle, fun i u hu => ?_⟩
    have hi : i < rs.length * 2 := by
      have := (List.getElem?_eq_some_iff.1 hu).1
      rwa [rangesCells_len] at this
    obtain ⟨j, r, hr, rfl⟩ : ∃ j r, r < 2 ∧ i = j * 2 + r := ⟨i / 2, i % 2, Nat.mod_lt _ (by decide), by omega⟩
    have hj : j < rs.length := by omega
    rw [rangesCells_get rs j hj r hr] at hu
    obtain ⟨h0, h1⟩ := hc j hj
    match r, hr with
    | 0, _ => rw [← Option.some.inj hu]; exact h0
    | 1, _ => rw [← Option.some.inj hu]; exact h1
theorem OwnR.ranges {w : World} {B : Nat} {v : Value} {rs : List Rng} (h : OwnR w B v rs) : RangesIn w w.heap.size v rs := Rd.ranges (Rd.of_own h)
theorem OwnR.one (w : World) (x y : Nat) : OwnR (w.alloc (.cells #[.int .u64 x, .int .u64 y] 60)) w.heap.size (.slice (some ⟨w.heap.size, 0, none⟩) 1 1) [(x, y)] :=
  ⟨rfl, .inr ⟨w.heap.size, 1, _, rfl, Nat.le_refl _, heap_alloc_new w _, Nat.le_refl _, by unfold maxLen; omega, rfl, rfl⟩⟩
/-- 'append(v, u...)' of ranges -/
theorem wpList_append_ranges {w : World} {ops : Array Oper} {rest : List Oper} {o : Oper} {a : Act} {Q : Exit → Act → World → Prop} (hgd : o.guard = none) (s x : Operand)
    (ho : o.op = .call { callee := .builtin .append, args := #[s, x], argTypes := #[61, 61] }) (B : Nat) (v v2 : Value) (l m : List Rng)
    (hs : a.eval s = v) (hx : a.eval x = v2) (hown : OwnR w B v l) (h2 : Rd w v2 m.length (rangesCells m)) (hlen : (l.length + m.length) * 16 ≤ 140737488355328) (hbase : B ≤ w.heap.size)
    (h : ∀ v' w', OwnR w' B v' (l ++ m) → Below B w w' → wpList Tryz.prog ops Q rest (a.put o.dst v') w') : wpList Tryz.prog ops Q (o :: rest) a w := by
  refine wpList_append_rd hgd s x 61 ho B 60 _ 2 16 Tryz.underlying61 rng_info rfl (by decide) v v2 l.length m.length (rangesCells l) (rangesCells m) hs hx hown h2 (rangesCells_len m) (rangesCells_one m) (by unfold maxLen; omega) hlen hbase ?_
  intro v' w' ho' hg' _
  refine h v' w' ?_ ((Below.refl B w).grown hg' hbase (fun k hk => (World.ownsRow.lt hown k hk).1))
  unfold OwnR
  rw [List.length_append, rangesCells_app]
  exact ho'
/-- 'append(v, Range{x, y})' -/
theorem wpList_append_range {W : World} {ops : Array Oper} {rest : List Oper} {o : Oper} {a : Act} {Q : Exit → Act → World → Prop} (hgd : o.guard = none) (s x : Operand)
    (ho : o.op = .call { callee := .builtin .append, args := #[s, x], argTypes := #[61, 61] }) (B : Nat) (v : Value) (l : List Rng) (p q : Nat)
    (hs : a.eval s = v) (hx : a.eval x = .slice (some ⟨W.heap.size, 0, none⟩) 1 1) (hown : OwnR W B v l) (hlen : (l.length + 1) * 16 ≤ 140737488355328) (hbase : B ≤ W.heap.size)
    (h : ∀ v' w', OwnR w' B v' (l ++ [(p, q)]) → Below B W w' → wpList Tryz.prog ops Q rest (a.put o.dst v') w') :
    wpList Tryz.prog ops Q (o :: rest) a (W.alloc (.cells #[.int .u64 p, .int .u64 q] 60)) :=
  wpList_append_ranges hgd s x ho B v _ l [(p, q)] hs hx (hown.alloc _) (Rd.of_own (OwnR.one W p q)) (by simpa using hlen) (by simp; omega) (fun v' w' ho' hb' => h v' w' ho' (((Below.refl B W).alloc hbase _).trans hb'))
/-! numbers in memory -/
def encU (n : Nat) : Value := .int .u64 (n : Int)
def OwnN (w : World) (B : Nat) (v : Value) (ns : List Nat) : Prop := w.ownsRow B 23 1 v ns.length (ns.map encU)
theorem OwnN.nil (w : World) (B : Nat) : OwnN w B (.slice none 0 0) [] := World.ownsRow_nil _ _ _ _
theorem OwnN.alloc {w : World} {B : Nat} {v : Value} {ns : List Nat} (h : OwnN w B v ns) (o : Obj) : OwnN (w.alloc o) B v ns := World.ownsRow.alloc h o
theorem OwnN.below {w w' : World} {B : Nat} {v : Value} {ns : List Nat} (h : OwnN w B v ns) (hb : Below w.heap.size w w') : OwnN w' B v ns :=
  World.ownsRow.kept (row := none) h ⟨hb.os, hb.tape, hb.output, hb.size, fun k hk _ => hb.block k hk⟩ (by cases hv : v.ownBlock <;> simp)
theorem OwnN.len {w : World} {B : Nat} {v : Value} {ns : List Nat} (h : OwnN w B v ns) : ∃ a c, v = .slice a ns.length c := by
  rcases h.2 with ⟨rfl, hn⟩ | ⟨g, cap, cur, rfl, _⟩
  · exact ⟨none, 0, by rw [hn]⟩
  · exact ⟨_, _, rfl⟩
theorem OwnN.rd {w : World} {B : Nat} {v : Value} {ns : List Nat} (h : OwnN w B v ns) : Rd w v ns.length (ns.map encU) := Rd.of_own h
theorem u64_info : (Tryz.prog.info? 23).map (fun i => (i.zero, i.size, i.bytes)) = some (some (.int .u64 0), 1, 8) := by kernel_rfl
theorem OwnN.one (w : World) (x : Nat) : OwnN (w.alloc (.cells #[.int .u64 x] 23)) w.heap.size (.slice (some ⟨w.heap.size, 0, none⟩) 1 1) [x] :=
  ⟨rfl, .inr ⟨w.heap.size, 1, _, rfl, Nat.le_refl _, heap_alloc_new w _, Nat.le_refl _, by unfold maxLen; omega, rfl, rfl⟩⟩
/-- 'append(v, u...)' of numbers -/
theorem wpList_append_nums {w : World} {ops : Array Oper} {rest : List Oper} {o : Oper} {a : Act} {Q : Exit → Act → World → Prop} (hgd : o.guard = none) (s x : Operand)
    (ho : o.op = .call { callee := .builtin .append, args := #[s, x], argTypes := #[47, 47] }) (B : Nat) (v v2 : Value) (l m : List Nat)
    (hs : a.eval s = v) (hx : a.eval x = v2) (hown : OwnN w B v l) (h2 : Rd w v2 m.length (m.map encU)) (hlen : (l.length + m.length) * 8 ≤ 140737488355328) (hbase : B ≤ w.heap.size)
    (h : ∀ v' w', OwnN w' B v' (l ++ m) → Below B w w' → wpList Tryz.prog ops Q rest (a.put o.dst v') w') : wpList Tryz.prog ops Q (o :: rest) a w := by
  refine wpList_append_rd hgd s x 47 ho B 23 _ 1 8 Tryz.underlying47 u64_info rfl (by decide) v v2 l.length m.length (l.map encU) (m.map encU) hs hx hown h2 (by simp) (fun u hu => ?_) (by unfold maxLen; omega) hlen hbase ?_
  · obtain ⟨z, _, rfl⟩ := List.mem_map.1 hu; rfl
  intro v' w' ho' hg' _
  refine h v' w' ?_ ((Below.refl B w).grown hg' hbase (fun k hk => (World.ownsRow.lt hown k hk).1))
  unfold OwnN
  rw [List.length_append, List.map_append]
  exact ho'
/-- 'append(v, n)' -/
theorem wpList_append_num {W : World} {ops : Array Oper} {rest : List Oper} {o : Oper} {a : Act} {Q : Exit → Act → World → Prop} (hgd : o.guard = none) (s x : Operand)
    (ho : o.op = .call { callee := .builtin .append, args := #[s, x], argTypes := #[47, 47] }) (B : Nat) (v : Value) (l : List Nat) (p : Nat)
    (hs : a.eval s = v) (hx : a.eval x = .slice (some ⟨W.heap.size, 0, none⟩) 1 1) (hown : OwnN W B v l) (hlen : (l.length + 1) * 8 ≤ 140737488355328) (hbase : B ≤ W.heap.size)
    (h : ∀ v' w', OwnN w' B v' (l ++ [p]) → Below B W w' → wpList Tryz.prog ops Q rest (a.put o.dst v') w') :
    wpList Tryz.prog ops Q (o :: rest) a (W.alloc (.cells #[.int .u64 p] 23)) :=
  wpList_append_nums hgd s x ho B v _ l [p] hs hx (hown.alloc _) (Rd.of_own (OwnN.one W p)) (by simpa using hlen) (by simp; omega) (fun v' w' ho' hb' => h v' w' ho' (((Below.refl B W).alloc hbase _).trans hb'))
/-! texts in memory -/
def OwnTq (w : World) (B : Nat) (v : Value) (l : List (List UInt8)) : Prop := w.ownsRow B 9 1 v l.length (l.map encStr)
theorem OwnTq.nil (w : World) (B : Nat) : OwnTq w B (.slice none 0 0) [] := World.ownsRow_nil _ _ _ _
theorem OwnTq.alloc {w : World} {B : Nat} {v : Value} {l : List (List UInt8)} (h : OwnTq w B v l) (o : Obj) : OwnTq (w.alloc o) B v l := World.ownsRow.alloc h o
theorem OwnTq.rd {w : World} {B : Nat} {v : Value} {l : List (List UInt8)} (h : OwnTq w B v l) : Rd w v l.length (l.map encStr) := Rd.of_own h
theorem OwnTq.below {w w' : World} {B : Nat} {v : Value} {l : List (List UInt8)} (h : OwnTq w B v l) (hb : Below w.heap.size w w') : OwnTq w' B v l :=
  World.ownsRow.kept (row := none) h ⟨hb.os, hb.tape, hb.output, hb.size, fun k hk _ => hb.block k hk⟩ (by cases hv : v.ownBlock <;> simp)
theorem OwnTq.len {w : World} {B : Nat} {v : Value} {l : List (List UInt8)} (h : OwnTq w B v l) : ∃ a c, v = .slice a l.length c := by
  rcases h.2 with ⟨rfl, hn⟩ | ⟨g, cap, cur, rfl, _⟩
  · exact ⟨none, 0, by rw [hn]⟩
  · exact ⟨_, _, rfl⟩
theorem text_info : (Tryz.prog.info? 9).map (fun i => (i.zero, i.size, i.bytes)) = some (some (.string ⟨#[]⟩), 1, 16) := by kernel_rfl
theorem OwnTq.one (w : World) (u : ByteArray) : OwnTq (w.alloc (.cells #[.string u] 9)) w.heap.size (.slice (some ⟨w.heap.size, 0, none⟩) 1 1) [u.data.toList] :=
  ⟨rfl, .inr ⟨w.heap.size, 1, _, rfl, Nat.le_refl _, heap_alloc_new w _, Nat.le_refl _, by unfold maxLen; omega, rfl, rfl⟩⟩
/-- 'append(v, u)' of texts -/
theorem wpList_append_textq {W : World} {ops : Array Oper} {rest : List Oper} {o : Oper} {a : Act} {Q : Exit → Act → World → Prop} (hgd : o.guard = none) (s x : Operand)
    (ho : o.op = .call { callee := .builtin .append, args := #[s, x], argTypes := #[48, 48] }) (B : Nat) (v : Value) (l : List (List UInt8)) (u : ByteArray)
    (hs : a.eval s = v) (hx : a.eval x = .slice (some ⟨W.heap.size, 0, none⟩) 1 1) (hown : OwnTq W B v l) (hlen : (l.length + 1) * 16 ≤ 140737488355328) (hbase : B ≤ W.heap.size)
    (h : ∀ v' w', OwnTq w' B v' (l ++ [u.data.toList]) → Below B W w' → wpList Tryz.prog ops Q rest (a.put o.dst v') w') :
    wpList Tryz.prog ops Q (o :: rest) a (W.alloc (.cells #[.string u] 9)) := by
  have hown2 := hown.alloc (.cells #[.string u] 9)
  refine wpList_append_rd hgd s x 48 ho B 9 _ 1 16 Tryz.underlying48 text_info rfl (by decide) v _ l.length 1 (l.map encStr) [.string u] hs hx hown2 (Rd.of_own (OwnTq.one W u)) rfl (fun y hy => ?_) (by unfold maxLen; omega) hlen (by simp; omega) ?_
  · have : y = .string u := by simpa using hy
    subst this; rfl
  · intro v' w' ho' hg' _
    refine h v' w' ?_ (((Below.refl B W).alloc hbase _).grown hg' (by simp; omega) (fun k hk => (World.ownsRow.lt hown2 k hk).1))
    unfold OwnTq
    rw [List.length_append, List.map_append]
    exact ho'
end Go.Proofs.YtcnebfmlelcliaaGreat
