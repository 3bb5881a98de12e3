/- mail's letterRight and boxRight, asked about any letter, any mailbox: the exact answer. (written by tools/gen_ImR.py) -/
import Derived.Test.YtpkaoiadjffjiaaGreatB06
namespace Go.Proofs.YtpkaoiadjffjiaaGreat
set_option linter.unusedSimpArgs false
open Go.RowKit
attribute [local go_sem ↓] Go.wp_at_zero Go.wp_at_succ

theorem yn_yes {P : Prop} {W : World} {e : Ending} {w' : World} (hp : P) (h : e = .returned (.bool true) ∧ Hid (Below W.heap.size W w')) : YesNo P W e w' := ⟨true, h.1, Lib.hid ⟨fun _ => hp, fun _ => rfl⟩, h.2⟩
theorem yn_no {P : Prop} {W : World} {e : Ending} {w' : World} (hp : ¬ P) (h : e = .returned (.bool false) ∧ Hid (Below W.heap.size W w')) : YesNo P W e w' := ⟨false, h.1, Lib.hid ⟨fun h => (by cases h), fun h => absurd h hp⟩, h.2⟩
set_option maxRecDepth 100000 in
set_option maxHeartbeats 16000000 in
theorem letterRight_no {W : World} (Z : LtV) (X : BxV) (hn : ¬ LetP Z.x X.b) (hf : FlIn W Z.v Z.x.flags) (hfl : Z.x.flags.length ≤ 10000) (hfs : Sized Z.x.flags) :
    Calls Tryz.prog 57 #[.agg #[.int .u64 Z.x.uid, .slice Z.a Z.x.flags.length Z.c, .int .u64 Z.x.mod, .string Z.x.hash, .int .u64 Z.x.size], .agg #[.string X.name, .int .u64 X.validity, .int .u64 X.next, .int .u64 X.high, .slice X.a X.rows.length X.c]] W fun e w' => e = .returned (.bool false) ∧ Hid (Below W.heap.size W w') := by
  obtain ⟨⟨uid, flags, mod, hash, size⟩, a, c⟩ := Z
  obtain ⟨nm, va, nx, hg, rows, xa, xc⟩ := X
  dsimp only at hfl hfs
  have hz2 := ((Zoo.nil W).newBox [.int .u64 uid, .slice a flags.length c, .int .u64 mod, .string hash, .int .u64 size].toArray 45).newBox [.string nm, .int .u64 va, .int .u64 nx, .int .u64 hg, .slice xa rows.length xc].toArray 40
  have hf0 : ∀ w', Below W.heap.size W w' → FlIn w' (.slice a flags.length c) flags := fun w' h => hf.below h
  generalize hMB : W.heap.size = MB at hz2
  generalize hRB : (W.alloc (.cells [.int .u64 uid, .slice a flags.length c, .int .u64 mod, .string hash, .int .u64 size].toArray 45)).heap.size = RB at hz2
  generalize hWb : ((W.alloc (.cells [.int .u64 uid, .slice a flags.length c, .int .u64 mod, .string hash, .int .u64 size].toArray 45)).alloc (.cells [.string nm, .int .u64 va, .int .u64 nx, .int .u64 hg, .slice xa rows.length xc].toArray 40)) = Wb at hz2
  have hright := Lib.hid (right_any (.slice a flags.length c) flags Wb (hf0 Wb hz2.bel) (by omega) hfs)
  obtain ⟨hbX, -⟩ := hz2.box 1 rfl
  have x0 : Wb.cell? ⟨MB, 0, none⟩ = some (.int .u64 uid) := box_cell hbX 0
  have x1 : Wb.cell? ⟨MB, 1, none⟩ = some (.slice a flags.length c) := box_cell hbX 1
  obtain ⟨hbY, -⟩ := hz2.box 0 rfl
  have y2 : Wb.cell? ⟨RB, 2, none⟩ = some (.int .u64 nx) := box_cell hbY 2
  clear hbX hbY hf hf0 hfl hfs
  have hbW := Lib.hid hz2.bel
  replace hz2 := Lib.hid hz2
  show Calls Tryz.prog 57 #[.agg #[.int .u64 uid, .slice a flags.length c, .int .u64 mod, .string hash, .int .u64 size], .agg #[.string nm, .int .u64 va, .int .u64 nx, .int .u64 hg, .slice xa rows.length xc]] W _
  by_cases t0 : 0 < uid
  case neg =>
    have p1 : ¬ (0 : Int) < (uid : Int) := by omega
    clear hn t0
    go_enter Tryz.func57, Tryz.ntmps57
    go_upto_region 1 with fail
    clear hWb hRB
    go_wp2_with fail
    go_ret
    first | exact ⟨rfl, hbW⟩ | (rw [← hMB]; exact ⟨rfl, hbW⟩)
  have p1 : (0 : Int) < (uid : Int) := by omega
  by_cases t1 : uid < nx
  case neg =>
    have p2 : ¬ (uid : Int) < (nx : Int) := by omega
    clear hn t0 t1
    go_enter Tryz.func57, Tryz.ntmps57
    go_upto_region 1 with fail
    clear hWb hRB
    go_wp2_with fail
    go_ret
    first | exact ⟨rfl, hbW⟩ | (rw [← hMB]; exact ⟨rfl, hbW⟩)
  have p2 : (uid : Int) < (nx : Int) := by omega
  cases ht : rightB flags with
  | false =>
    rw [ht] at hright
    clear hn ht t0 t1
    go_enter Tryz.func57, Tryz.ntmps57
    go_upto_region 1 with fail
    clear hWb hRB
    go_wp2_with (go_at_call 69; refine hright.out.mono ?_; rintro e w3 ⟨rfl, hb3⟩; clear x0 x1 y2; refine Hid.out ?_)
    have hz3 := Lib.hid (hz2.out.below hb3)
    obtain ⟨hbX, -⟩ := hz3.out.box 1 rfl
    have x2 : w3.cell? ⟨MB, 2, none⟩ = some (.int .u64 mod) := box_cell hbX 2
    have x3 : w3.cell? ⟨MB, 3, none⟩ = some (.string hash) := box_cell hbX 3
    have x4 : w3.cell? ⟨MB, 4, none⟩ = some (.int .u64 size) := box_cell hbX 4
    obtain ⟨hbY, -⟩ := hz3.out.box 0 rfl
    have y3 : w3.cell? ⟨RB, 3, none⟩ = some (.int .u64 hg) := box_cell hbY 3
    have hbF := Lib.hid hz3.out.bel
    clear hbX hbY hright hz2 hbW
    refine Lib.hid ?_
    go_wp2_with fail
    go_ret
    first | exact ⟨rfl, hbF⟩ | (rw [← hMB]; exact ⟨rfl, hbF⟩)
  | true =>
    have hft := ht
    rw [ht] at hright
    clear ht
    by_cases t3 : 0 < mod
    case neg =>
      have p3 : ¬ (0 : Int) < (mod : Int) := by omega
      clear hn hft t0 t1 t3
      go_enter Tryz.func57, Tryz.ntmps57
      go_upto_region 1 with fail
      clear hWb hRB
      go_wp2_with (go_at_call 69; refine hright.out.mono ?_; rintro e w3 ⟨rfl, hb3⟩; clear x0 x1 y2; refine Hid.out ?_)
      have hz3 := Lib.hid (hz2.out.below hb3)
      obtain ⟨hbX, -⟩ := hz3.out.box 1 rfl
      have x2 : w3.cell? ⟨MB, 2, none⟩ = some (.int .u64 mod) := box_cell hbX 2
      have x3 : w3.cell? ⟨MB, 3, none⟩ = some (.string hash) := box_cell hbX 3
      have x4 : w3.cell? ⟨MB, 4, none⟩ = some (.int .u64 size) := box_cell hbX 4
      obtain ⟨hbY, -⟩ := hz3.out.box 0 rfl
      have y3 : w3.cell? ⟨RB, 3, none⟩ = some (.int .u64 hg) := box_cell hbY 3
      have hbF := Lib.hid hz3.out.bel
      clear hbX hbY hright hz2 hbW
      refine Lib.hid ?_
      go_wp2_with fail
      go_ret
      first | exact ⟨rfl, hbF⟩ | (rw [← hMB]; exact ⟨rfl, hbF⟩)
    have p3 : (0 : Int) < (mod : Int) := by omega
    by_cases t4 : mod ≤ hg
    case neg =>
      have p4 : ¬ (mod : Int) ≤ (hg : Int) := by omega
      clear hn hft t0 t1 t3 t4
      go_enter Tryz.func57, Tryz.ntmps57
      go_upto_region 1 with fail
      clear hWb hRB
      go_wp2_with (go_at_call 69; refine hright.out.mono ?_; rintro e w3 ⟨rfl, hb3⟩; clear x0 x1 y2; refine Hid.out ?_)
      have hz3 := Lib.hid (hz2.out.below hb3)
      obtain ⟨hbX, -⟩ := hz3.out.box 1 rfl
      have x2 : w3.cell? ⟨MB, 2, none⟩ = some (.int .u64 mod) := box_cell hbX 2
      have x3 : w3.cell? ⟨MB, 3, none⟩ = some (.string hash) := box_cell hbX 3
      have x4 : w3.cell? ⟨MB, 4, none⟩ = some (.int .u64 size) := box_cell hbX 4
      obtain ⟨hbY, -⟩ := hz3.out.box 0 rfl
      have y3 : w3.cell? ⟨RB, 3, none⟩ = some (.int .u64 hg) := box_cell hbY 3
      have hbF := Lib.hid hz3.out.bel
      clear hbX hbY hright hz2 hbW
      refine Lib.hid ?_
      go_wp2_with fail
      go_ret
      first | exact ⟨rfl, hbF⟩ | (rw [← hMB]; exact ⟨rfl, hbF⟩)
    have p4 : (mod : Int) ≤ (hg : Int) := by omega
    by_cases t5 : hash.size = 32
    case neg =>
      have p5 : ((hash.size : Int) == 32) = false := by simp; omega
      clear hn hft t0 t1 t3 t4 t5
      go_enter Tryz.func57, Tryz.ntmps57
      go_upto_region 1 with fail
      clear hWb hRB
      go_wp2_with (go_at_call 69; refine hright.out.mono ?_; rintro e w3 ⟨rfl, hb3⟩; clear x0 x1 y2; refine Hid.out ?_)
      have hz3 := Lib.hid (hz2.out.below hb3)
      obtain ⟨hbX, -⟩ := hz3.out.box 1 rfl
      have x2 : w3.cell? ⟨MB, 2, none⟩ = some (.int .u64 mod) := box_cell hbX 2
      have x3 : w3.cell? ⟨MB, 3, none⟩ = some (.string hash) := box_cell hbX 3
      have x4 : w3.cell? ⟨MB, 4, none⟩ = some (.int .u64 size) := box_cell hbX 4
      obtain ⟨hbY, -⟩ := hz3.out.box 0 rfl
      have y3 : w3.cell? ⟨RB, 3, none⟩ = some (.int .u64 hg) := box_cell hbY 3
      have hbF := Lib.hid hz3.out.bel
      clear hbX hbY hright hz2 hbW
      refine Lib.hid ?_
      go_wp2_with fail
      go_ret
      first | exact ⟨rfl, hbF⟩ | (rw [← hMB]; exact ⟨rfl, hbF⟩)
    have p5 : ((hash.size : Int) == 32) = true := by simp; omega
    by_cases t6 : size ≤ 4096
    case neg =>
      have p6 : decide ((size : Int) ≤ 4096) = false := decide_eq_false (by omega)
      have p6b : decide (size ≤ 4096) = false := decide_eq_false (by omega)
      clear hn hft t0 t1 t3 t4 t5 t6
      go_enter Tryz.func57, Tryz.ntmps57
      go_upto_region 1 with fail
      clear hWb hRB
      go_wp2_with (go_at_call 69; refine hright.out.mono ?_; rintro e w3 ⟨rfl, hb3⟩; clear x0 x1 y2; refine Hid.out ?_)
      have hz3 := Lib.hid (hz2.out.below hb3)
      obtain ⟨hbX, -⟩ := hz3.out.box 1 rfl
      have x2 : w3.cell? ⟨MB, 2, none⟩ = some (.int .u64 mod) := box_cell hbX 2
      have x3 : w3.cell? ⟨MB, 3, none⟩ = some (.string hash) := box_cell hbX 3
      have x4 : w3.cell? ⟨MB, 4, none⟩ = some (.int .u64 size) := box_cell hbX 4
      obtain ⟨hbY, -⟩ := hz3.out.box 0 rfl
      have y3 : w3.cell? ⟨RB, 3, none⟩ = some (.int .u64 hg) := box_cell hbY 3
      have hbF := Lib.hid hz3.out.bel
      clear hbX hbY hright hz2 hbW
      refine Lib.hid ?_
      go_wp2_with fail
      go_ret
      first | exact ⟨rfl, hbF⟩ | (rw [← hMB]; exact ⟨rfl, hbF⟩)
    have p6 : (size : Int) ≤ 4096 := by omega
    exact absurd (⟨t0, t1, hft, t3, t4, t5, t6⟩ : LetP _ _) hn
theorem letterRight_any {W : World} (Z : LtV) (X : BxV) (hf : FlIn W Z.v Z.x.flags) (hfl : Z.x.flags.length ≤ 10000) (hfs : Sized Z.x.flags) :
    Calls Tryz.prog 57 #[.agg #[.int .u64 Z.x.uid, .slice Z.a Z.x.flags.length Z.c, .int .u64 Z.x.mod, .string Z.x.hash, .int .u64 Z.x.size], .agg #[.string X.name, .int .u64 X.validity, .int .u64 X.next, .int .u64 X.high, .slice X.a X.rows.length X.c]] W (YesNo (LetP Z.x X.b) W) := by
  by_cases hp : LetP Z.x X.b
  · exact (letterRight_yes Z X hp hf).mono (fun _ _ h => yn_yes hp h)
  · exact (letterRight_no Z X hp hf hfl hfs).mono (fun _ _ h => yn_no hp h)
set_option maxRecDepth 100000 in
set_option maxHeartbeats 16000000 in
theorem boxRight_no {W : World} (X : BxV) (next : Nat) (hn : ¬ BoxP X.b next) (hin : LtsIn W X.v X.rows) (hns : X.name.size ≤ maxLen) (hrl : X.rows.length ≤ 100000) (hlf : ∀ y ∈ X.rows, y.x.flags.length ≤ 10000 ∧ Sized y.x.flags) :
    Calls Tryz.prog 45 #[.agg #[.string X.name, .int .u64 X.validity, .int .u64 X.next, .int .u64 X.high, .slice X.a X.rows.length X.c], .int .u64 next] W fun e w' => e = .returned (.bool false) ∧ Hid (Below W.heap.size W w') := by
  obtain ⟨nm, va, nx, hg, rows, xa, xc⟩ := X
  dsimp only at hns hlf hrl
  have hz1 := (Zoo.nil W).newBox [.string nm, .int .u64 va, .int .u64 nx, .int .u64 hg, .slice xa rows.length xc].toArray 40
  have hin0 : Hid (∀ w', Below W.heap.size W w' → LtsIn w' (.slice xa rows.length xc) rows) := Lib.hid (fun w' h => hin.below h)
  generalize hMB : W.heap.size = MB at hz1
  generalize hWa : (W.alloc (.cells [.string nm, .int .u64 va, .int .u64 nx, .int .u64 hg, .slice xa rows.length xc].toArray 40)) = Wa at hz1
  have hname := Lib.hid (box_any nm hns Wa)
  obtain ⟨hbB, -⟩ := hz1.box 0 rfl
  have x0 : Wa.cell? ⟨MB, 0, none⟩ = some (.string nm) := box_cell hbB 0
  replace hz1 := Lib.hid hz1
  replace hlf := Lib.hid hlf
  clear hin hbB hns
  show Calls Tryz.prog 45 #[.agg #[.string nm, .int .u64 va, .int .u64 nx, .int .u64 hg, .slice xa rows.length xc], .int .u64 next] W _
  cases t0 : boxOk nm.data.toList with
  | false =>
    clear hn
    go_enter Tryz.func45, Tryz.ntmps45
    go_wp2_with fail
    refine hname.out.mono ?_
    rintro e w3 ⟨u, rfl, hu, hb3⟩
    dsimp only
    rw [t0]
    replace hz1 := Lib.hid (hz1.out.below hb3)
    obtain ⟨hbB, -⟩ := hz1.out.box 0 rfl
    clear x0
    have x0 : w3.cell? ⟨MB, 0, none⟩ = some (.string nm) := box_cell hbB 0
    have x1 : w3.cell? ⟨MB, 1, none⟩ = some (.int .u64 va) := box_cell hbB 1
    have x2 : w3.cell? ⟨MB, 2, none⟩ = some (.int .u64 nx) := box_cell hbB 2
    have x3 : w3.cell? ⟨MB, 3, none⟩ = some (.int .u64 hg) := box_cell hbB 3
    have x4 : w3.cell? ⟨MB, 4, none⟩ = some (.slice xa rows.length xc) := box_cell hbB 4
    clear hbB hname hb3
    have hbF := Lib.hid hz1.out.bel
    go_wp2_with fail
    go_ret
    first | exact ⟨rfl, hbF⟩ | (rw [← hMB]; exact ⟨rfl, hbF⟩)
  | true =>
    by_cases t1 : boxL nm.data.toList = nm.data.toList
    case neg =>
      clear hn
      go_enter Tryz.func45, Tryz.ntmps45
      go_wp2_with fail
      refine hname.out.mono ?_
      rintro e w3 ⟨u, rfl, hu, hb3⟩
      dsimp only
      rw [t0]
      have q0 : (u.toList != nm.toList) = true := by
        rw [ByteArray.toList_eq, ByteArray.toList_eq, hu.out]
        simpa using t1
      have q0b : (u.toList == nm.toList) = false := by
        rw [ByteArray.toList_eq, ByteArray.toList_eq, hu.out]
        simpa using t1
      clear hu t0 t1
      replace hz1 := Lib.hid (hz1.out.below hb3)
      obtain ⟨hbB, -⟩ := hz1.out.box 0 rfl
      clear x0
      have x0 : w3.cell? ⟨MB, 0, none⟩ = some (.string nm) := box_cell hbB 0
      have x1 : w3.cell? ⟨MB, 1, none⟩ = some (.int .u64 va) := box_cell hbB 1
      have x2 : w3.cell? ⟨MB, 2, none⟩ = some (.int .u64 nx) := box_cell hbB 2
      have x3 : w3.cell? ⟨MB, 3, none⟩ = some (.int .u64 hg) := box_cell hbB 3
      have x4 : w3.cell? ⟨MB, 4, none⟩ = some (.slice xa rows.length xc) := box_cell hbB 4
      clear hbB hname hb3
      have hbF := Lib.hid hz1.out.bel
      go_wp2_with fail
      go_ret
      first | exact ⟨rfl, hbF⟩ | (rw [← hMB]; exact ⟨rfl, hbF⟩)
    by_cases t2 : 1 ≤ va
    case neg =>
      have q1 : decide ((va : Int) < 1) = true := decide_eq_true (by omega)
      clear hn t2
      go_enter Tryz.func45, Tryz.ntmps45
      go_wp2_with fail
      refine hname.out.mono ?_
      rintro e w3 ⟨u, rfl, hu, hb3⟩
      dsimp only
      rw [t0]
      obtain rfl : nm = u := (toList_inj_ (by rw [ByteArray.toList_eq, ByteArray.toList_eq, hu.out, t1])).symm
      have q0 : (nm.toList != nm.toList) = false := by simp
      clear hu t0 t1
      replace hz1 := Lib.hid (hz1.out.below hb3)
      obtain ⟨hbB, -⟩ := hz1.out.box 0 rfl
      clear x0
      have x0 : w3.cell? ⟨MB, 0, none⟩ = some (.string nm) := box_cell hbB 0
      have x1 : w3.cell? ⟨MB, 1, none⟩ = some (.int .u64 va) := box_cell hbB 1
      have x2 : w3.cell? ⟨MB, 2, none⟩ = some (.int .u64 nx) := box_cell hbB 2
      have x3 : w3.cell? ⟨MB, 3, none⟩ = some (.int .u64 hg) := box_cell hbB 3
      have x4 : w3.cell? ⟨MB, 4, none⟩ = some (.slice xa rows.length xc) := box_cell hbB 4
      clear hbB hname hb3
      have hbF := Lib.hid hz1.out.bel
      go_wp2_with fail
      go_ret
      first | exact ⟨rfl, hbF⟩ | (rw [← hMB]; exact ⟨rfl, hbF⟩)
    have q1 : decide ((va : Int) < 1) = false := decide_eq_false (by omega)
    by_cases t3 : va < next
    case neg =>
      have q2 : decide ((next : Int) ≤ (va : Int)) = true := decide_eq_true (by omega)
      have q2b : decide (next ≤ va) = true := decide_eq_true (by omega)
      clear hn t2 t3
      go_enter Tryz.func45, Tryz.ntmps45
      go_wp2_with fail
      refine hname.out.mono ?_
      rintro e w3 ⟨u, rfl, hu, hb3⟩
      dsimp only
      rw [t0]
      obtain rfl : nm = u := (toList_inj_ (by rw [ByteArray.toList_eq, ByteArray.toList_eq, hu.out, t1])).symm
      have q0 : (nm.toList != nm.toList) = false := by simp
      clear hu t0 t1
      replace hz1 := Lib.hid (hz1.out.below hb3)
      obtain ⟨hbB, -⟩ := hz1.out.box 0 rfl
      clear x0
      have x0 : w3.cell? ⟨MB, 0, none⟩ = some (.string nm) := box_cell hbB 0
      have x1 : w3.cell? ⟨MB, 1, none⟩ = some (.int .u64 va) := box_cell hbB 1
      have x2 : w3.cell? ⟨MB, 2, none⟩ = some (.int .u64 nx) := box_cell hbB 2
      have x3 : w3.cell? ⟨MB, 3, none⟩ = some (.int .u64 hg) := box_cell hbB 3
      have x4 : w3.cell? ⟨MB, 4, none⟩ = some (.slice xa rows.length xc) := box_cell hbB 4
      clear hbB hname hb3
      have hbF := Lib.hid hz1.out.bel
      go_wp2_with fail
      go_ret
      first | exact ⟨rfl, hbF⟩ | (rw [← hMB]; exact ⟨rfl, hbF⟩)
    have q2 : decide ((next : Int) ≤ (va : Int)) = false := decide_eq_false (by omega)
    have q2b : decide (next ≤ va) = false := decide_eq_false (by omega)
    by_cases t4 : 1 ≤ nx
    case neg =>
      have q3 : decide ((nx : Int) < 1) = true := decide_eq_true (by omega)
      clear hn t2 t3 t4
      go_enter Tryz.func45, Tryz.ntmps45
      go_wp2_with fail
      refine hname.out.mono ?_
      rintro e w3 ⟨u, rfl, hu, hb3⟩
      dsimp only
      rw [t0]
      obtain rfl : nm = u := (toList_inj_ (by rw [ByteArray.toList_eq, ByteArray.toList_eq, hu.out, t1])).symm
      have q0 : (nm.toList != nm.toList) = false := by simp
      clear hu t0 t1
      replace hz1 := Lib.hid (hz1.out.below hb3)
      obtain ⟨hbB, -⟩ := hz1.out.box 0 rfl
      clear x0
      have x0 : w3.cell? ⟨MB, 0, none⟩ = some (.string nm) := box_cell hbB 0
      have x1 : w3.cell? ⟨MB, 1, none⟩ = some (.int .u64 va) := box_cell hbB 1
      have x2 : w3.cell? ⟨MB, 2, none⟩ = some (.int .u64 nx) := box_cell hbB 2
      have x3 : w3.cell? ⟨MB, 3, none⟩ = some (.int .u64 hg) := box_cell hbB 3
      have x4 : w3.cell? ⟨MB, 4, none⟩ = some (.slice xa rows.length xc) := box_cell hbB 4
      clear hbB hname hb3
      have hbF := Lib.hid hz1.out.bel
      go_wp2_with fail
      go_ret
      first | exact ⟨rfl, hbF⟩ | (rw [← hMB]; exact ⟨rfl, hbF⟩)
    have q3 : decide ((nx : Int) < 1) = false := decide_eq_false (by omega)
    by_cases t5 : nx ≤ 4294967296
    case neg =>
      have q4 : decide ((4294967296 : Int) < (nx : Int)) = true := decide_eq_true (by omega)
      clear hn t2 t3 t4 t5
      go_enter Tryz.func45, Tryz.ntmps45
      go_wp2_with fail
      refine hname.out.mono ?_
      rintro e w3 ⟨u, rfl, hu, hb3⟩
      dsimp only
      rw [t0]
      obtain rfl : nm = u := (toList_inj_ (by rw [ByteArray.toList_eq, ByteArray.toList_eq, hu.out, t1])).symm
      have q0 : (nm.toList != nm.toList) = false := by simp
      clear hu t0 t1
      replace hz1 := Lib.hid (hz1.out.below hb3)
      obtain ⟨hbB, -⟩ := hz1.out.box 0 rfl
      clear x0
      have x0 : w3.cell? ⟨MB, 0, none⟩ = some (.string nm) := box_cell hbB 0
      have x1 : w3.cell? ⟨MB, 1, none⟩ = some (.int .u64 va) := box_cell hbB 1
      have x2 : w3.cell? ⟨MB, 2, none⟩ = some (.int .u64 nx) := box_cell hbB 2
      have x3 : w3.cell? ⟨MB, 3, none⟩ = some (.int .u64 hg) := box_cell hbB 3
      have x4 : w3.cell? ⟨MB, 4, none⟩ = some (.slice xa rows.length xc) := box_cell hbB 4
      clear hbB hname hb3
      have hbF := Lib.hid hz1.out.bel
      go_wp2_with fail
      go_ret
      first | exact ⟨rfl, hbF⟩ | (rw [← hMB]; exact ⟨rfl, hbF⟩)
    have q4 : decide ((4294967296 : Int) < (nx : Int)) = false := decide_eq_false (by omega)
    by_cases t6 : 1 ≤ hg
    case neg =>
      have q5 : decide ((hg : Int) < 1) = true := decide_eq_true (by omega)
      clear hn t2 t3 t4 t5 t6
      go_enter Tryz.func45, Tryz.ntmps45
      go_wp2_with fail
      refine hname.out.mono ?_
      rintro e w3 ⟨u, rfl, hu, hb3⟩
      dsimp only
      rw [t0]
      obtain rfl : nm = u := (toList_inj_ (by rw [ByteArray.toList_eq, ByteArray.toList_eq, hu.out, t1])).symm
      have q0 : (nm.toList != nm.toList) = false := by simp
      clear hu t0 t1
      replace hz1 := Lib.hid (hz1.out.below hb3)
      obtain ⟨hbB, -⟩ := hz1.out.box 0 rfl
      clear x0
      have x0 : w3.cell? ⟨MB, 0, none⟩ = some (.string nm) := box_cell hbB 0
      have x1 : w3.cell? ⟨MB, 1, none⟩ = some (.int .u64 va) := box_cell hbB 1
      have x2 : w3.cell? ⟨MB, 2, none⟩ = some (.int .u64 nx) := box_cell hbB 2
      have x3 : w3.cell? ⟨MB, 3, none⟩ = some (.int .u64 hg) := box_cell hbB 3
      have x4 : w3.cell? ⟨MB, 4, none⟩ = some (.slice xa rows.length xc) := box_cell hbB 4
      clear hbB hname hb3
      have hbF := Lib.hid hz1.out.bel
      go_wp2_with fail
      go_ret
      first | exact ⟨rfl, hbF⟩ | (rw [← hMB]; exact ⟨rfl, hbF⟩)
    have q5 : decide ((hg : Int) < 1) = false := decide_eq_false (by omega)
    by_cases t7 : hg ≤ 9223372036854775807
    case neg =>
      have q6 : decide ((9223372036854775807 : Int) < (hg : Int)) = true := decide_eq_true (by omega)
      clear hn t2 t3 t4 t5 t6 t7
      go_enter Tryz.func45, Tryz.ntmps45
      go_wp2_with fail
      refine hname.out.mono ?_
      rintro e w3 ⟨u, rfl, hu, hb3⟩
      dsimp only
      rw [t0]
      obtain rfl : nm = u := (toList_inj_ (by rw [ByteArray.toList_eq, ByteArray.toList_eq, hu.out, t1])).symm
      have q0 : (nm.toList != nm.toList) = false := by simp
      clear hu t0 t1
      replace hz1 := Lib.hid (hz1.out.below hb3)
      obtain ⟨hbB, -⟩ := hz1.out.box 0 rfl
      clear x0
      have x0 : w3.cell? ⟨MB, 0, none⟩ = some (.string nm) := box_cell hbB 0
      have x1 : w3.cell? ⟨MB, 1, none⟩ = some (.int .u64 va) := box_cell hbB 1
      have x2 : w3.cell? ⟨MB, 2, none⟩ = some (.int .u64 nx) := box_cell hbB 2
      have x3 : w3.cell? ⟨MB, 3, none⟩ = some (.int .u64 hg) := box_cell hbB 3
      have x4 : w3.cell? ⟨MB, 4, none⟩ = some (.slice xa rows.length xc) := box_cell hbB 4
      clear hbB hname hb3
      have hbF := Lib.hid hz1.out.bel
      go_wp2_with fail
      go_ret
      first | exact ⟨rfl, hbF⟩ | (rw [← hMB]; exact ⟨rfl, hbF⟩)
    have q6 : decide ((9223372036854775807 : Int) < (hg : Int)) = false := decide_eq_false (by omega)
    by_cases t8 : rows.length ≤ 32
    case neg =>
      have q7 : decide ((32 : Int) < (rows.length : Int)) = true := decide_eq_true (by omega)
      clear hn t2 t3 t4 t5 t6 t7 t8
      go_enter Tryz.func45, Tryz.ntmps45
      go_wp2_with fail
      refine hname.out.mono ?_
      rintro e w3 ⟨u, rfl, hu, hb3⟩
      dsimp only
      rw [t0]
      obtain rfl : nm = u := (toList_inj_ (by rw [ByteArray.toList_eq, ByteArray.toList_eq, hu.out, t1])).symm
      have q0 : (nm.toList != nm.toList) = false := by simp
      clear hu t0 t1
      replace hz1 := Lib.hid (hz1.out.below hb3)
      obtain ⟨hbB, -⟩ := hz1.out.box 0 rfl
      clear x0
      have x0 : w3.cell? ⟨MB, 0, none⟩ = some (.string nm) := box_cell hbB 0
      have x1 : w3.cell? ⟨MB, 1, none⟩ = some (.int .u64 va) := box_cell hbB 1
      have x2 : w3.cell? ⟨MB, 2, none⟩ = some (.int .u64 nx) := box_cell hbB 2
      have x3 : w3.cell? ⟨MB, 3, none⟩ = some (.int .u64 hg) := box_cell hbB 3
      have x4 : w3.cell? ⟨MB, 4, none⟩ = some (.slice xa rows.length xc) := box_cell hbB 4
      clear hbB hname hb3
      have hbF := Lib.hid hz1.out.bel
      go_wp2_with fail
      go_ret
      first | exact ⟨rfl, hbF⟩ | (rw [← hMB]; exact ⟨rfl, hbF⟩)
    have q7 : decide ((32 : Int) < (rows.length : Int)) = false := decide_eq_false (by omega)
    have h32 := Lib.hid t8
    have hn2 : Hid (∀ last, UpTo (rows.map LtV.x) (BxV.b ⟨nm, va, nx, hg, rows, xa, xc⟩) rows.length last → False) := Lib.hid (fun last h => hn ⟨t0, t1, t2, t3, t4, t5, t6, t7, by show (rows.map LtV.x).length ≤ 32; rw [List.length_map]; exact t8, fun x hx => h.1 x (by rw [List.take_of_length_le (by rw [List.length_map]; exact Nat.le_refl _)]; exact hx), by have := h.2.1; rwa [List.take_of_length_le (by rw [List.length_map]; exact Nat.le_refl _)] at this⟩)
    clear hn t2 t3 t4 t5 t6 t7 t8
    go_enter Tryz.func45, Tryz.ntmps45
    go_wp2_with fail
    refine hname.out.mono ?_
    rintro e w3 ⟨u, rfl, hu, hb3⟩
    dsimp only
    rw [t0]
    obtain rfl : nm = u := (toList_inj_ (by rw [ByteArray.toList_eq, ByteArray.toList_eq, hu.out, t1])).symm
    have q0 : (nm.toList != nm.toList) = false := by simp
    clear hu t0 t1
    replace hz1 := Lib.hid (hz1.out.below hb3)
    obtain ⟨hbB, -⟩ := hz1.out.box 0 rfl
    clear x0
    have x0 : w3.cell? ⟨MB, 0, none⟩ = some (.string nm) := box_cell hbB 0
    have x1 : w3.cell? ⟨MB, 1, none⟩ = some (.int .u64 va) := box_cell hbB 1
    have x2 : w3.cell? ⟨MB, 2, none⟩ = some (.int .u64 nx) := box_cell hbB 2
    have x3 : w3.cell? ⟨MB, 3, none⟩ = some (.int .u64 hg) := box_cell hbB 3
    have x4 : w3.cell? ⟨MB, 4, none⟩ = some (.slice xa rows.length xc) := box_cell hbB 4
    clear hbB hname hb3
    go_wp2_with fail
    clear x0 x1 x2 x3 x4 q0 q1 q2 q2b q3 q4 q5 q6 q7
    go_loopw [63] (fun v63 wr => ∃ j last : Nat, v63 = .int .i64 j ∧ j ≤ rows.length ∧ Hid (UpTo (rows.map LtV.x) (BxV.b ⟨nm, va, nx, hg, rows, xa, xc⟩) j last) ∧ Hid (j = 0 ∧ last = 0 ∨ 0 < j ∧ ∀ h : j - 1 < rows.length, rows[j - 1].x.uid = last) ∧ Hid (Zoo W wr [boxT MB [.string nm, .int .u64 va, .int .u64 nx, .int .u64 hg, .slice xa rows.length xc].toArray 40])) (fun v63 _ => rows.length - (intOf v63).toNat)
    case atStart => exact ⟨0, 0, rfl, Nat.zero_le _, Lib.hid (UpTo.zero _ _), Lib.hid (.inl ⟨rfl, rfl⟩), hz1⟩
    case round =>
      clear hz1
      obtain ⟨j, last, rfl, hj, hup, hla, hz⟩ := hrel
      by_cases hlt : j < rows.length
      · have hin1 := hin0.out wr hz.out.bel
        obtain ⟨b, bo, cap, hv, hc⟩ := hin1.cells_at hlt
        injection hv with hv1 hv2 hv3
        subst hv1 hv3
        have hlm : j < (rows.map LtV.x).length := by rw [List.length_map]; exact hlt
        have hfi := hin1.2 _ (List.getElem_mem hlt)
        have hfs := hlf.out _ (List.getElem_mem hlt)
        have hst : ∀ (hP : LetP rows[j].x (BxV.b ⟨nm, va, nx, hg, rows, some ⟨b, bo, none⟩, xc⟩)) (hl : last < rows[j].x.uid), UpTo (rows.map LtV.x) (BxV.b ⟨nm, va, nx, hg, rows, some ⟨b, bo, none⟩, xc⟩) (j + 1) rows[j].x.uid := fun hP hl => by
          have := UpTo.step hup.out hlm (by rw [List.getElem_map]; exact hP) (by rw [List.getElem_map]; exact hl)
          rwa [List.getElem_map] at this
        have hprev : 0 < j → ∀ W', Below wr.heap.size wr W' → W'.cell? ⟨b, bo + (j - 1) * 5, none⟩ = some (.int .u64 last) := by
          intro hjp
          have hkl : j - 1 < rows.length := by omega
          obtain ⟨b', bo', cap', hv', hc'⟩ := hin1.cells_at hkl
          injection hv' with h1 h2 h3
          injection h1 with h1
          injection h1 with h1 h4
          subst h1 h4
          intro W' hb
          have h5 := (hc' W' hb).1
          rcases hla.out with ⟨h6, -⟩ | ⟨-, h6⟩
          · omega
          · rw [h6 hkl] at h5; exact h5
        have hl0 : j = 0 → last = 0 := fun e => by
          rcases hla.out with ⟨-, h6⟩ | ⟨h6, -⟩
          · exact h6
          · omega
        obtain ⟨z, hz'⟩ : ∃ z, rows[j] = z := ⟨_, rfl⟩
        rw [hz'] at hc hfi hfs hst
        have hnx : Hid (j + 1 = 0 ∧ z.x.uid = 0 ∨ 0 < j + 1 ∧ ∀ h : j + 1 - 1 < rows.length, rows[j + 1 - 1].x.uid = z.x.uid) := Lib.hid (.inr ⟨by omega, fun h => (by rw [← hz']; rfl)⟩)
        obtain ⟨r0, r1, r2, r3, r4⟩ := hc wr (Below.refl _ _)
        replace r1 : wr.cell? ⟨b, bo + j * 5 + 1, none⟩ = some (.slice z.a z.x.flags.length z.c) := r1
        have hcall := Lib.hid (fun w' (h : Below wr.heap.size wr w') => letterRight_any (W := w') z ⟨nm, va, nx, hg, rows, some ⟨b, bo, none⟩, xc⟩ (hfi.below h) hfs.1 hfs.2)
        dsimp only at hcall
        replace hprev := Lib.hid hprev
        replace hst := Lib.hid hst
        replace hl0 := Lib.hid hl0
        have hj0 : (0 : Int) ≤ (j : Int) := by omega
        have hj1 : (j : Int) < (rows.length : Int) := by omega
        have hzb := Lib.hid (hz.out.newBox [.int .u64 z.x.uid, .slice z.a z.x.flags.length z.c, .int .u64 z.x.mod, .string z.x.hash, .int .u64 z.x.size].toArray 45)
        have hbw := Lib.hid ((Below.refl wr.heap.size wr).alloc (Nat.le_refl _) (.cells [.int .u64 z.x.uid, .slice z.a z.x.flags.length z.c, .int .u64 z.x.mod, .string z.x.hash, .int .u64 z.x.size].toArray 45))
        clear hc hfi hfs hin1 hlm hz' hup hla
        go_upto_region 7 with fail
        generalize hLbE : wr.heap.size = Lb at hzb hcall hprev hbw ⊢
        generalize hWl : (wr.alloc (.cells [.int .u64 z.x.uid, .slice z.a z.x.flags.length z.c, .int .u64 z.x.mod, .string z.x.hash, .int .u64 z.x.size].toArray 45)) = wl at hzb hbw ⊢
        clear hWl r0 r1 r2 r3 r4 hj0
        have hzd := hzb.out.drew
        have hbd := hbw.out.drew
        clear hzb hbw
        have hcd := hcall.out
        obtain ⟨hbL, -⟩ := hzd.box 0 rfl
        obtain ⟨hbB, -⟩ := hzd.box 1 rfl
        rcases Nat.eq_zero_or_pos j with rfl | hjp
        · obtain rfl := hl0.out rfl
          clear hprev
          refine wp_region_hd (fun w' => (w'.cell? ⟨Lb, 0, none⟩ = some (.int .u64 z.x.uid) ∧ w'.cell? ⟨Lb, 1, none⟩ = some (.slice z.a z.x.flags.length z.c) ∧ w'.cell? ⟨Lb, 2, none⟩ = some (.int .u64 z.x.mod) ∧ w'.cell? ⟨Lb, 3, none⟩ = some (.string z.x.hash) ∧ w'.cell? ⟨Lb, 4, none⟩ = some (.int .u64 z.x.size)) ∧ (w'.cell? ⟨MB, 0, none⟩ = some (.string nm) ∧ w'.cell? ⟨MB, 1, none⟩ = some (.int .u64 va) ∧ w'.cell? ⟨MB, 2, none⟩ = some (.int .u64 nx) ∧ w'.cell? ⟨MB, 3, none⟩ = some (.int .u64 hg) ∧ w'.cell? ⟨MB, 4, none⟩ = some (.slice (some ⟨b, bo, none⟩) rows.length xc))) 19 1 (by kernel_rfl) rfl ⟨by kernel_rfl, by kernel_rfl, by kernel_rfl, by decide⟩ ⟨⟨box_cell hbL 0, box_cell hbL 1, box_cell hbL 2, box_cell hbL 3, box_cell hbL 4⟩, ⟨box_cell hbB 0, box_cell hbB 1, box_cell hbB 2, box_cell hbB 3, box_cell hbB 4⟩⟩ (fun hok hS0 => ?_)
          generalize wl.drew = Wd at *
          refine Hd.take (i := 0) (v := ?tv1) hok rfl (by kernel_rfl) (fun _ _ _ h => h) (Or.inl ⟨by rfl, ?ty1⟩) (by assumption) ?tr1
          case ty1 => (intro w hSw; (try dsimp only at hSw); go_simp; (try with_reducible rfl))
          try simp only [List.getElem_toArray, List.getElem_cons_succ, List.getElem_cons_zero, Act.put, List.setIfInBounds_toArray, List.set_cons_zero, List.set_cons_succ]
          refine Hd.take (i := 1) (v := ?tv2) hok rfl (by kernel_rfl) (fun _ _ _ h => h) (Or.inl ⟨by rfl, ?ty2⟩) (by assumption) ?tr2
          case ty2 => (intro w hSw; (try dsimp only at hSw); go_simp; (try with_reducible rfl))
          try simp only [List.getElem_toArray, List.getElem_cons_succ, List.getElem_cons_zero, Act.put, List.setIfInBounds_toArray, List.set_cons_zero, List.set_cons_succ]
          refine Hd.one (i := 2) rfl (by kernel_rfl) (fun K hK => ?_)
          go_simp
          refine (hcd _ hbd).mono ?_
          rintro e w5 ⟨B, rfl, hB, hb5⟩
          dsimp only
          have hz5 := hzd.below hb5.out
          have hbd5 := hbd.trans (hb5.out.mono (by rw [← hLbE]; exact hbd.size))
          clear hbL hbB
          obtain ⟨hbL, -⟩ := hz5.box 0 rfl
          obtain ⟨hbB, -⟩ := hz5.box 1 rfl
          have hS1 : (w5.cell? ⟨Lb, 0, none⟩ = some (.int .u64 z.x.uid) ∧ w5.cell? ⟨Lb, 1, none⟩ = some (.slice z.a z.x.flags.length z.c) ∧ w5.cell? ⟨Lb, 2, none⟩ = some (.int .u64 z.x.mod) ∧ w5.cell? ⟨Lb, 3, none⟩ = some (.string z.x.hash) ∧ w5.cell? ⟨Lb, 4, none⟩ = some (.int .u64 z.x.size)) ∧ (w5.cell? ⟨MB, 0, none⟩ = some (.string nm) ∧ w5.cell? ⟨MB, 1, none⟩ = some (.int .u64 va) ∧ w5.cell? ⟨MB, 2, none⟩ = some (.int .u64 nx) ∧ w5.cell? ⟨MB, 3, none⟩ = some (.int .u64 hg) ∧ w5.cell? ⟨MB, 4, none⟩ = some (.slice (some ⟨b, bo, none⟩) rows.length xc)) := ⟨⟨box_cell hbL 0, box_cell hbL 1, box_cell hbL 2, box_cell hbL 3, box_cell hbL 4⟩, ⟨box_cell hbB 0, box_cell hbB 1, box_cell hbB 2, box_cell hbB 3, box_cell hbB 4⟩⟩
          refine hK _ _ hS1 ?_
          clear hK K hS0
          try simp only [List.getElem_toArray, List.getElem_cons_succ, List.getElem_cons_zero, Act.put, List.setIfInBounds_toArray, List.set_cons_zero, List.set_cons_succ]
          have hzF := Lib.hid (hz5.sub (L' := [boxT MB [.string nm, .int .u64 va, .int .u64 nx, .int .u64 hg, .slice (some ⟨b, bo, none⟩) rows.length xc].toArray 40]) (List.Sublist.cons _ (List.Sublist.refl _)))
          cases B with
          | false =>
            have hbF := Lib.hid hz5.bel
            refine Hd.take (i := 3) (v := ?tv3) hok rfl (by kernel_rfl) (fun _ _ _ h => h) (Or.inl ⟨by rfl, ?ty3⟩) (by assumption) ?tr3
            case ty3 => (intro w hSw; (try dsimp only at hSw); go_simp; (try with_reducible rfl))
            try simp only [List.getElem_toArray, List.getElem_cons_succ, List.getElem_cons_zero, Act.put, List.setIfInBounds_toArray, List.set_cons_zero, List.set_cons_succ]
            refine Hd.take (i := 4) (v := ?tv4) hok rfl (by kernel_rfl) (fun _ _ _ h => h) (Or.inl ⟨by rfl, ?ty4⟩) (by assumption) ?tr4
            case ty4 => (intro w hSw; (try dsimp only at hSw); go_simp; (try with_reducible rfl))
            try simp only [List.getElem_toArray, List.getElem_cons_succ, List.getElem_cons_zero, Act.put, List.setIfInBounds_toArray, List.set_cons_zero, List.set_cons_succ]
            refine Hd.take (i := 5) (v := _) hok rfl (by kernel_rfl) (fun _ _ _ h => h) (Or.inr ⟨by rfl, rfl⟩) (by assumption) ?_
            try simp only [List.getElem_toArray, List.getElem_cons_succ, List.getElem_cons_zero, Act.put, List.setIfInBounds_toArray, List.set_cons_zero, List.set_cons_succ]
            refine Hd.take (i := 6) (v := _) hok rfl (by kernel_rfl) (fun _ _ _ h => h) (Or.inr ⟨by rfl, rfl⟩) (by assumption) ?_
            try simp only [List.getElem_toArray, List.getElem_cons_succ, List.getElem_cons_zero, Act.put, List.setIfInBounds_toArray, List.set_cons_zero, List.set_cons_succ]
            refine Hd.take (i := 7) (v := _) hok rfl (by kernel_rfl) (fun _ _ _ h => h) (Or.inr ⟨by rfl, rfl⟩) (by assumption) ?_
            try simp only [List.getElem_toArray, List.getElem_cons_succ, List.getElem_cons_zero, Act.put, List.setIfInBounds_toArray, List.set_cons_zero, List.set_cons_succ]
            refine Hd.take (i := 8) (v := _) hok rfl (by kernel_rfl) (fun _ _ _ h => h) (Or.inr ⟨by rfl, rfl⟩) (by assumption) ?_
            try simp only [List.getElem_toArray, List.getElem_cons_succ, List.getElem_cons_zero, Act.put, List.setIfInBounds_toArray, List.set_cons_zero, List.set_cons_succ]
            refine Hd.take (i := 9) (v := _) hok rfl (by kernel_rfl) (fun _ _ _ h => h) (Or.inr ⟨by rfl, rfl⟩) (by assumption) ?_
            try simp only [List.getElem_toArray, List.getElem_cons_succ, List.getElem_cons_zero, Act.put, List.setIfInBounds_toArray, List.set_cons_zero, List.set_cons_succ]
            refine Hd.take (i := 10) (v := _) hok rfl (by kernel_rfl) (fun _ _ _ h => h) (Or.inr ⟨by rfl, rfl⟩) (by assumption) ?_
            try simp only [List.getElem_toArray, List.getElem_cons_succ, List.getElem_cons_zero, Act.put, List.setIfInBounds_toArray, List.set_cons_zero, List.set_cons_succ]
            refine Hd.take (i := 11) (v := _) hok rfl (by kernel_rfl) (fun _ _ _ h => h) (Or.inr ⟨by rfl, rfl⟩) (by assumption) ?_
            try simp only [List.getElem_toArray, List.getElem_cons_succ, List.getElem_cons_zero, Act.put, List.setIfInBounds_toArray, List.set_cons_zero, List.set_cons_succ]
            refine Hd.take (i := 12) (v := _) hok rfl (by kernel_rfl) (fun _ _ _ h => h) (Or.inr ⟨by rfl, rfl⟩) (by assumption) ?_
            try simp only [List.getElem_toArray, List.getElem_cons_succ, List.getElem_cons_zero, Act.put, List.setIfInBounds_toArray, List.set_cons_zero, List.set_cons_succ]
            refine Hd.take (i := 13) (v := _) hok rfl (by kernel_rfl) (fun _ _ _ h => h) (Or.inr ⟨by rfl, rfl⟩) (by assumption) ?_
            try simp only [List.getElem_toArray, List.getElem_cons_succ, List.getElem_cons_zero, Act.put, List.setIfInBounds_toArray, List.set_cons_zero, List.set_cons_succ]
            refine Hd.take (i := 14) (v := _) hok rfl (by kernel_rfl) (fun _ _ _ h => h) (Or.inr ⟨by rfl, rfl⟩) (by assumption) ?_
            try simp only [List.getElem_toArray, List.getElem_cons_succ, List.getElem_cons_zero, Act.put, List.setIfInBounds_toArray, List.set_cons_zero, List.set_cons_succ]
            refine Hd.take (i := 15) (v := _) hok rfl (by kernel_rfl) (fun _ _ _ h => h) (Or.inr ⟨by rfl, rfl⟩) (by assumption) ?_
            try simp only [List.getElem_toArray, List.getElem_cons_succ, List.getElem_cons_zero, Act.put, List.setIfInBounds_toArray, List.set_cons_zero, List.set_cons_succ]
            refine Hd.take (i := 16) (v := _) hok rfl (by kernel_rfl) (fun _ _ _ h => h) (Or.inr ⟨by rfl, rfl⟩) (by assumption) ?_
            try simp only [List.getElem_toArray, List.getElem_cons_succ, List.getElem_cons_zero, Act.put, List.setIfInBounds_toArray, List.set_cons_zero, List.set_cons_succ]
            refine Hd.take (i := 17) (v := _) hok rfl (by kernel_rfl) (fun _ _ _ h => h) (Or.inr ⟨by rfl, rfl⟩) (by assumption) ?_
            try simp only [List.getElem_toArray, List.getElem_cons_succ, List.getElem_cons_zero, Act.put, List.setIfInBounds_toArray, List.set_cons_zero, List.set_cons_succ]
            refine Hd.take (i := 18) (v := _) hok rfl (by kernel_rfl) (fun _ _ _ h => h) (Or.inr ⟨by rfl, rfl⟩) (by assumption) ?_
            try simp only [List.getElem_toArray, List.getElem_cons_succ, List.getElem_cons_zero, Act.put, List.setIfInBounds_toArray, List.set_cons_zero, List.set_cons_succ]
            refine Hd.done (by kernel_rfl) ?_
            simp only [List.drop_succ_cons, List.drop_zero]
            clear hok hbL hbB hzd hz5 hcd hcall hb5 hzF hz
            go_wp2_with fail
            go_ret
            first | exact ⟨rfl, hbF⟩ | (rw [← hMB]; exact ⟨rfl, hbF⟩)
          | true =>
            have hP := hB.out.1 rfl
            have hup2 := Lib.hid (hst.out hP hP.u1)
            refine Hd.take (i := 3) (v := ?tv5) hok rfl (by kernel_rfl) (fun _ _ _ h => h) (Or.inl ⟨by rfl, ?ty5⟩) (by assumption) ?tr5
            case ty5 => (intro w hSw; (try dsimp only at hSw); go_simp; (try with_reducible rfl))
            try simp only [List.getElem_toArray, List.getElem_cons_succ, List.getElem_cons_zero, Act.put, List.setIfInBounds_toArray, List.set_cons_zero, List.set_cons_succ]
            refine Hd.take (i := 4) (v := ?tv6) hok rfl (by kernel_rfl) (fun _ _ _ h => h) (Or.inl ⟨by rfl, ?ty6⟩) (by assumption) ?tr6
            case ty6 => (intro w hSw; (try dsimp only at hSw); go_simp; (try with_reducible rfl))
            try simp only [List.getElem_toArray, List.getElem_cons_succ, List.getElem_cons_zero, Act.put, List.setIfInBounds_toArray, List.set_cons_zero, List.set_cons_succ]
            refine Hd.take (i := 5) (v := ?tv7) hok rfl (by kernel_rfl) (fun _ _ _ h => h) (Or.inl ⟨by rfl, ?ty7⟩) (by assumption) ?tr7
            case ty7 => (intro w hSw; (try dsimp only at hSw); go_simp; (try with_reducible rfl))
            try simp only [List.getElem_toArray, List.getElem_cons_succ, List.getElem_cons_zero, Act.put, List.setIfInBounds_toArray, List.set_cons_zero, List.set_cons_succ]
            refine Hd.take (i := 6) (v := ?tv8) hok rfl (by kernel_rfl) (fun _ _ _ h => h) (Or.inl ⟨by rfl, ?ty8⟩) (by assumption) ?tr8
            case ty8 => (intro w hSw; (try dsimp only at hSw); go_simp; (try with_reducible rfl))
            try simp only [List.getElem_toArray, List.getElem_cons_succ, List.getElem_cons_zero, Act.put, List.setIfInBounds_toArray, List.set_cons_zero, List.set_cons_succ]
            refine Hd.take (i := 7) (v := ?tv9) hok rfl (by kernel_rfl) (fun _ _ _ h => h) (Or.inl ⟨by rfl, ?ty9⟩) (by assumption) ?tr9
            case ty9 => (intro w hSw; (try dsimp only at hSw); go_simp; (try with_reducible rfl))
            try simp only [List.getElem_toArray, List.getElem_cons_succ, List.getElem_cons_zero, Act.put, List.setIfInBounds_toArray, List.set_cons_zero, List.set_cons_succ]
            refine Hd.take (i := 8) (v := _) hok rfl (by kernel_rfl) (fun _ _ _ h => h) (Or.inr ⟨by rfl, rfl⟩) (by assumption) ?_
            try simp only [List.getElem_toArray, List.getElem_cons_succ, List.getElem_cons_zero, Act.put, List.setIfInBounds_toArray, List.set_cons_zero, List.set_cons_succ]
            refine Hd.take (i := 9) (v := _) hok rfl (by kernel_rfl) (fun _ _ _ h => h) (Or.inr ⟨by rfl, rfl⟩) (by assumption) ?_
            try simp only [List.getElem_toArray, List.getElem_cons_succ, List.getElem_cons_zero, Act.put, List.setIfInBounds_toArray, List.set_cons_zero, List.set_cons_succ]
            refine Hd.take (i := 10) (v := _) hok rfl (by kernel_rfl) (fun _ _ _ h => h) (Or.inr ⟨by rfl, rfl⟩) (by assumption) ?_
            try simp only [List.getElem_toArray, List.getElem_cons_succ, List.getElem_cons_zero, Act.put, List.setIfInBounds_toArray, List.set_cons_zero, List.set_cons_succ]
            refine Hd.take (i := 11) (v := _) hok rfl (by kernel_rfl) (fun _ _ _ h => h) (Or.inr ⟨by rfl, rfl⟩) (by assumption) ?_
            try simp only [List.getElem_toArray, List.getElem_cons_succ, List.getElem_cons_zero, Act.put, List.setIfInBounds_toArray, List.set_cons_zero, List.set_cons_succ]
            refine Hd.take (i := 12) (v := _) hok rfl (by kernel_rfl) (fun _ _ _ h => h) (Or.inr ⟨by rfl, rfl⟩) (by assumption) ?_
            try simp only [List.getElem_toArray, List.getElem_cons_succ, List.getElem_cons_zero, Act.put, List.setIfInBounds_toArray, List.set_cons_zero, List.set_cons_succ]
            refine Hd.take (i := 13) (v := _) hok rfl (by kernel_rfl) (fun _ _ _ h => h) (Or.inr ⟨by rfl, rfl⟩) (by assumption) ?_
            try simp only [List.getElem_toArray, List.getElem_cons_succ, List.getElem_cons_zero, Act.put, List.setIfInBounds_toArray, List.set_cons_zero, List.set_cons_succ]
            refine Hd.take (i := 14) (v := _) hok rfl (by kernel_rfl) (fun _ _ _ h => h) (Or.inr ⟨by rfl, rfl⟩) (by assumption) ?_
            try simp only [List.getElem_toArray, List.getElem_cons_succ, List.getElem_cons_zero, Act.put, List.setIfInBounds_toArray, List.set_cons_zero, List.set_cons_succ]
            refine Hd.take (i := 15) (v := _) hok rfl (by kernel_rfl) (fun _ _ _ h => h) (Or.inr ⟨by rfl, rfl⟩) (by assumption) ?_
            try simp only [List.getElem_toArray, List.getElem_cons_succ, List.getElem_cons_zero, Act.put, List.setIfInBounds_toArray, List.set_cons_zero, List.set_cons_succ]
            refine Hd.take (i := 16) (v := _) hok rfl (by kernel_rfl) (fun _ _ _ h => h) (Or.inr ⟨by rfl, rfl⟩) (by assumption) ?_
            try simp only [List.getElem_toArray, List.getElem_cons_succ, List.getElem_cons_zero, Act.put, List.setIfInBounds_toArray, List.set_cons_zero, List.set_cons_succ]
            refine Hd.take (i := 17) (v := _) hok rfl (by kernel_rfl) (fun _ _ _ h => h) (Or.inr ⟨by rfl, rfl⟩) (by assumption) ?_
            try simp only [List.getElem_toArray, List.getElem_cons_succ, List.getElem_cons_zero, Act.put, List.setIfInBounds_toArray, List.set_cons_zero, List.set_cons_succ]
            refine Hd.take (i := 18) (v := ?tv10) hok rfl (by kernel_rfl) (fun _ _ _ h => h) (Or.inl ⟨by rfl, ?ty10⟩) (by assumption) ?tr10
            case ty10 => (intro w hSw; (try dsimp only at hSw); go_simp; (try with_reducible rfl))
            try simp only [List.getElem_toArray, List.getElem_cons_succ, List.getElem_cons_zero, Act.put, List.setIfInBounds_toArray, List.set_cons_zero, List.set_cons_succ]
            refine Hd.done (by kernel_rfl) ?_
            simp only [List.drop_succ_cons, List.drop_zero]
            clear hok hbL hbB hzd hz5 hcd hcall hb5 hP hB hst hl0
            have h32p := h32.out
            go_wp2_with fail
            go_roundw
            case rel => exact ⟨0 + 1, z.x.uid, by go_num, by omega, hup2, hnx, hzF⟩
            case measure => simp [intOf] <;> omega
        · have hpc := hprev.out hjp
          have hp1 : (0 : Int) < (j : Int) := by omega
          have hp2 : (0 : Int) ≤ (j : Int) - 1 := by omega
          have hp3 : (j : Int) - 1 < (rows.length : Int) := by omega
          have hp4 : IntKind.i64.wrap ((j : Int) - 1) = (j : Int) - 1 := IntWalk.i64_in _ (by have := h32.out; omega)
          have hp5 : ((j : Int) - 1).toNat = j - 1 := by omega
          have hp6 : (1 : Int) ≤ (j : Int) := by omega
          clear hprev
          refine wp_region_hd (fun w' => (w'.cell? ⟨Lb, 0, none⟩ = some (.int .u64 z.x.uid) ∧ w'.cell? ⟨Lb, 1, none⟩ = some (.slice z.a z.x.flags.length z.c) ∧ w'.cell? ⟨Lb, 2, none⟩ = some (.int .u64 z.x.mod) ∧ w'.cell? ⟨Lb, 3, none⟩ = some (.string z.x.hash) ∧ w'.cell? ⟨Lb, 4, none⟩ = some (.int .u64 z.x.size)) ∧ (w'.cell? ⟨MB, 0, none⟩ = some (.string nm) ∧ w'.cell? ⟨MB, 1, none⟩ = some (.int .u64 va) ∧ w'.cell? ⟨MB, 2, none⟩ = some (.int .u64 nx) ∧ w'.cell? ⟨MB, 3, none⟩ = some (.int .u64 hg) ∧ w'.cell? ⟨MB, 4, none⟩ = some (.slice (some ⟨b, bo, none⟩) rows.length xc)) ∧ w'.cell? ⟨b, bo + (j - 1) * 5, none⟩ = some (.int .u64 last)) 19 1 (by kernel_rfl) rfl ⟨by kernel_rfl, by kernel_rfl, by kernel_rfl, by decide⟩ ⟨⟨box_cell hbL 0, box_cell hbL 1, box_cell hbL 2, box_cell hbL 3, box_cell hbL 4⟩, ⟨box_cell hbB 0, box_cell hbB 1, box_cell hbB 2, box_cell hbB 3, box_cell hbB 4⟩, hpc _ hbd⟩ (fun hok hS0 => ?_)
          generalize wl.drew = Wd at *
          refine Hd.take (i := 0) (v := ?tv11) hok rfl (by kernel_rfl) (fun _ _ _ h => h) (Or.inl ⟨by rfl, ?ty11⟩) (by assumption) ?tr11
          case ty11 => (intro w hSw; (try dsimp only at hSw); go_simp; (try with_reducible rfl))
          try simp only [List.getElem_toArray, List.getElem_cons_succ, List.getElem_cons_zero, Act.put, List.setIfInBounds_toArray, List.set_cons_zero, List.set_cons_succ]
          refine Hd.take (i := 1) (v := ?tv12) hok rfl (by kernel_rfl) (fun _ _ _ h => h) (Or.inl ⟨by rfl, ?ty12⟩) (by assumption) ?tr12
          case ty12 => (intro w hSw; (try dsimp only at hSw); go_simp; (try with_reducible rfl))
          try simp only [List.getElem_toArray, List.getElem_cons_succ, List.getElem_cons_zero, Act.put, List.setIfInBounds_toArray, List.set_cons_zero, List.set_cons_succ]
          refine Hd.one (i := 2) rfl (by kernel_rfl) (fun K hK => ?_)
          go_simp
          refine (hcd _ hbd).mono ?_
          rintro e w5 ⟨B, rfl, hB, hb5⟩
          dsimp only
          have hz5 := hzd.below hb5.out
          have hbd5 := hbd.trans (hb5.out.mono (by rw [← hLbE]; exact hbd.size))
          clear hbL hbB
          obtain ⟨hbL, -⟩ := hz5.box 0 rfl
          obtain ⟨hbB, -⟩ := hz5.box 1 rfl
          have hS1 : (w5.cell? ⟨Lb, 0, none⟩ = some (.int .u64 z.x.uid) ∧ w5.cell? ⟨Lb, 1, none⟩ = some (.slice z.a z.x.flags.length z.c) ∧ w5.cell? ⟨Lb, 2, none⟩ = some (.int .u64 z.x.mod) ∧ w5.cell? ⟨Lb, 3, none⟩ = some (.string z.x.hash) ∧ w5.cell? ⟨Lb, 4, none⟩ = some (.int .u64 z.x.size)) ∧ (w5.cell? ⟨MB, 0, none⟩ = some (.string nm) ∧ w5.cell? ⟨MB, 1, none⟩ = some (.int .u64 va) ∧ w5.cell? ⟨MB, 2, none⟩ = some (.int .u64 nx) ∧ w5.cell? ⟨MB, 3, none⟩ = some (.int .u64 hg) ∧ w5.cell? ⟨MB, 4, none⟩ = some (.slice (some ⟨b, bo, none⟩) rows.length xc)) ∧ w5.cell? ⟨b, bo + (j - 1) * 5, none⟩ = some (.int .u64 last) := ⟨⟨box_cell hbL 0, box_cell hbL 1, box_cell hbL 2, box_cell hbL 3, box_cell hbL 4⟩, ⟨box_cell hbB 0, box_cell hbB 1, box_cell hbB 2, box_cell hbB 3, box_cell hbB 4⟩, hpc _ hbd5⟩
          refine hK _ _ hS1 ?_
          clear hK K hS0
          try simp only [List.getElem_toArray, List.getElem_cons_succ, List.getElem_cons_zero, Act.put, List.setIfInBounds_toArray, List.set_cons_zero, List.set_cons_succ]
          have hzF := Lib.hid (hz5.sub (L' := [boxT MB [.string nm, .int .u64 va, .int .u64 nx, .int .u64 hg, .slice (some ⟨b, bo, none⟩) rows.length xc].toArray 40]) (List.Sublist.cons _ (List.Sublist.refl _)))
          cases B with
          | false =>
            have hbF := Lib.hid hz5.bel
            refine Hd.take (i := 3) (v := ?tv13) hok rfl (by kernel_rfl) (fun _ _ _ h => h) (Or.inl ⟨by rfl, ?ty13⟩) (by assumption) ?tr13
            case ty13 => (intro w hSw; (try dsimp only at hSw); go_simp; (try with_reducible rfl))
            try simp only [List.getElem_toArray, List.getElem_cons_succ, List.getElem_cons_zero, Act.put, List.setIfInBounds_toArray, List.set_cons_zero, List.set_cons_succ]
            refine Hd.take (i := 4) (v := ?tv14) hok rfl (by kernel_rfl) (fun _ _ _ h => h) (Or.inl ⟨by rfl, ?ty14⟩) (by assumption) ?tr14
            case ty14 => (intro w hSw; (try dsimp only at hSw); go_simp; (try with_reducible rfl))
            try simp only [List.getElem_toArray, List.getElem_cons_succ, List.getElem_cons_zero, Act.put, List.setIfInBounds_toArray, List.set_cons_zero, List.set_cons_succ]
            refine Hd.take (i := 5) (v := _) hok rfl (by kernel_rfl) (fun _ _ _ h => h) (Or.inr ⟨by rfl, rfl⟩) (by assumption) ?_
            try simp only [List.getElem_toArray, List.getElem_cons_succ, List.getElem_cons_zero, Act.put, List.setIfInBounds_toArray, List.set_cons_zero, List.set_cons_succ]
            refine Hd.take (i := 6) (v := _) hok rfl (by kernel_rfl) (fun _ _ _ h => h) (Or.inr ⟨by rfl, rfl⟩) (by assumption) ?_
            try simp only [List.getElem_toArray, List.getElem_cons_succ, List.getElem_cons_zero, Act.put, List.setIfInBounds_toArray, List.set_cons_zero, List.set_cons_succ]
            refine Hd.take (i := 7) (v := _) hok rfl (by kernel_rfl) (fun _ _ _ h => h) (Or.inr ⟨by rfl, rfl⟩) (by assumption) ?_
            try simp only [List.getElem_toArray, List.getElem_cons_succ, List.getElem_cons_zero, Act.put, List.setIfInBounds_toArray, List.set_cons_zero, List.set_cons_succ]
            refine Hd.take (i := 8) (v := _) hok rfl (by kernel_rfl) (fun _ _ _ h => h) (Or.inr ⟨by rfl, rfl⟩) (by assumption) ?_
            try simp only [List.getElem_toArray, List.getElem_cons_succ, List.getElem_cons_zero, Act.put, List.setIfInBounds_toArray, List.set_cons_zero, List.set_cons_succ]
            refine Hd.take (i := 9) (v := _) hok rfl (by kernel_rfl) (fun _ _ _ h => h) (Or.inr ⟨by rfl, rfl⟩) (by assumption) ?_
            try simp only [List.getElem_toArray, List.getElem_cons_succ, List.getElem_cons_zero, Act.put, List.setIfInBounds_toArray, List.set_cons_zero, List.set_cons_succ]
            refine Hd.take (i := 10) (v := _) hok rfl (by kernel_rfl) (fun _ _ _ h => h) (Or.inr ⟨by rfl, rfl⟩) (by assumption) ?_
            try simp only [List.getElem_toArray, List.getElem_cons_succ, List.getElem_cons_zero, Act.put, List.setIfInBounds_toArray, List.set_cons_zero, List.set_cons_succ]
            refine Hd.take (i := 11) (v := _) hok rfl (by kernel_rfl) (fun _ _ _ h => h) (Or.inr ⟨by rfl, rfl⟩) (by assumption) ?_
            try simp only [List.getElem_toArray, List.getElem_cons_succ, List.getElem_cons_zero, Act.put, List.setIfInBounds_toArray, List.set_cons_zero, List.set_cons_succ]
            refine Hd.take (i := 12) (v := _) hok rfl (by kernel_rfl) (fun _ _ _ h => h) (Or.inr ⟨by rfl, rfl⟩) (by assumption) ?_
            try simp only [List.getElem_toArray, List.getElem_cons_succ, List.getElem_cons_zero, Act.put, List.setIfInBounds_toArray, List.set_cons_zero, List.set_cons_succ]
            refine Hd.take (i := 13) (v := _) hok rfl (by kernel_rfl) (fun _ _ _ h => h) (Or.inr ⟨by rfl, rfl⟩) (by assumption) ?_
            try simp only [List.getElem_toArray, List.getElem_cons_succ, List.getElem_cons_zero, Act.put, List.setIfInBounds_toArray, List.set_cons_zero, List.set_cons_succ]
            refine Hd.take (i := 14) (v := _) hok rfl (by kernel_rfl) (fun _ _ _ h => h) (Or.inr ⟨by rfl, rfl⟩) (by assumption) ?_
            try simp only [List.getElem_toArray, List.getElem_cons_succ, List.getElem_cons_zero, Act.put, List.setIfInBounds_toArray, List.set_cons_zero, List.set_cons_succ]
            refine Hd.take (i := 15) (v := _) hok rfl (by kernel_rfl) (fun _ _ _ h => h) (Or.inr ⟨by rfl, rfl⟩) (by assumption) ?_
            try simp only [List.getElem_toArray, List.getElem_cons_succ, List.getElem_cons_zero, Act.put, List.setIfInBounds_toArray, List.set_cons_zero, List.set_cons_succ]
            refine Hd.take (i := 16) (v := _) hok rfl (by kernel_rfl) (fun _ _ _ h => h) (Or.inr ⟨by rfl, rfl⟩) (by assumption) ?_
            try simp only [List.getElem_toArray, List.getElem_cons_succ, List.getElem_cons_zero, Act.put, List.setIfInBounds_toArray, List.set_cons_zero, List.set_cons_succ]
            refine Hd.take (i := 17) (v := _) hok rfl (by kernel_rfl) (fun _ _ _ h => h) (Or.inr ⟨by rfl, rfl⟩) (by assumption) ?_
            try simp only [List.getElem_toArray, List.getElem_cons_succ, List.getElem_cons_zero, Act.put, List.setIfInBounds_toArray, List.set_cons_zero, List.set_cons_succ]
            refine Hd.take (i := 18) (v := _) hok rfl (by kernel_rfl) (fun _ _ _ h => h) (Or.inr ⟨by rfl, rfl⟩) (by assumption) ?_
            try simp only [List.getElem_toArray, List.getElem_cons_succ, List.getElem_cons_zero, Act.put, List.setIfInBounds_toArray, List.set_cons_zero, List.set_cons_succ]
            refine Hd.done (by kernel_rfl) ?_
            simp only [List.drop_succ_cons, List.drop_zero]
            clear hok hbL hbB hzd hz5 hcd hcall hb5 hzF hz
            go_wp2_with fail
            go_ret
            first | exact ⟨rfl, hbF⟩ | (rw [← hMB]; exact ⟨rfl, hbF⟩)
          | true =>
            have hP := hB.out.1 rfl
            by_cases hlu : last < z.x.uid
            · have hu1 : decide ((z.x.uid : Int) ≤ (last : Int)) = false := decide_eq_false (by omega)
              have hu2 : decide (z.x.uid ≤ last) = false := decide_eq_false (by omega)
              have hup2 := Lib.hid (hst.out hP hlu)
              refine Hd.take (i := 3) (v := ?tv15) hok rfl (by kernel_rfl) (fun _ _ _ h => h) (Or.inl ⟨by rfl, ?ty15⟩) (by assumption) ?tr15
              case ty15 => (intro w hSw; (try dsimp only at hSw); go_simp; (try with_reducible rfl))
              try simp only [List.getElem_toArray, List.getElem_cons_succ, List.getElem_cons_zero, Act.put, List.setIfInBounds_toArray, List.set_cons_zero, List.set_cons_succ]
              refine Hd.take (i := 4) (v := ?tv16) hok rfl (by kernel_rfl) (fun _ _ _ h => h) (Or.inl ⟨by rfl, ?ty16⟩) (by assumption) ?tr16
              case ty16 => (intro w hSw; (try dsimp only at hSw); go_simp; (try with_reducible rfl))
              try simp only [List.getElem_toArray, List.getElem_cons_succ, List.getElem_cons_zero, Act.put, List.setIfInBounds_toArray, List.set_cons_zero, List.set_cons_succ]
              refine Hd.take (i := 5) (v := ?tv17) hok rfl (by kernel_rfl) (fun _ _ _ h => h) (Or.inl ⟨by rfl, ?ty17⟩) (by assumption) ?tr17
              case ty17 => (intro w hSw; (try dsimp only at hSw); go_simp; (try with_reducible rfl))
              try simp only [List.getElem_toArray, List.getElem_cons_succ, List.getElem_cons_zero, Act.put, List.setIfInBounds_toArray, List.set_cons_zero, List.set_cons_succ]
              refine Hd.take (i := 6) (v := ?tv18) hok rfl (by kernel_rfl) (fun _ _ _ h => h) (Or.inl ⟨by rfl, ?ty18⟩) (by assumption) ?tr18
              case ty18 => (intro w hSw; (try dsimp only at hSw); go_simp; (try with_reducible rfl))
              try simp only [List.getElem_toArray, List.getElem_cons_succ, List.getElem_cons_zero, Act.put, List.setIfInBounds_toArray, List.set_cons_zero, List.set_cons_succ]
              refine Hd.take (i := 7) (v := ?tv19) hok rfl (by kernel_rfl) (fun _ _ _ h => h) (Or.inl ⟨by rfl, ?ty19⟩) (by assumption) ?tr19
              case ty19 => (intro w hSw; (try dsimp only at hSw); go_simp; (try with_reducible rfl))
              try simp only [List.getElem_toArray, List.getElem_cons_succ, List.getElem_cons_zero, Act.put, List.setIfInBounds_toArray, List.set_cons_zero, List.set_cons_succ]
              refine Hd.take (i := 8) (v := ?tv20) hok rfl (by kernel_rfl) (fun _ _ _ h => h) (Or.inl ⟨by rfl, ?ty20⟩) (by assumption) ?tr20
              case ty20 => (intro w hSw; (try dsimp only at hSw); go_simp; (try with_reducible rfl))
              try simp only [List.getElem_toArray, List.getElem_cons_succ, List.getElem_cons_zero, Act.put, List.setIfInBounds_toArray, List.set_cons_zero, List.set_cons_succ]
              refine Hd.take (i := 9) (v := ?tv21) hok rfl (by kernel_rfl) (fun _ _ _ h => h) (Or.inl ⟨by rfl, ?ty21⟩) (by assumption) ?tr21
              case ty21 => (intro w hSw; (try dsimp only at hSw); go_simp; (try with_reducible rfl))
              try simp only [List.getElem_toArray, List.getElem_cons_succ, List.getElem_cons_zero, Act.put, List.setIfInBounds_toArray, List.set_cons_zero, List.set_cons_succ]
              refine Hd.take (i := 10) (v := ?tv22) hok rfl (by kernel_rfl) (fun _ _ _ h => h) (Or.inl ⟨by rfl, ?ty22⟩) (by assumption) ?tr22
              case ty22 => (intro w hSw; (try dsimp only at hSw); go_simp; (try with_reducible rfl))
              try simp only [List.getElem_toArray, List.getElem_cons_succ, List.getElem_cons_zero, Act.put, List.setIfInBounds_toArray, List.set_cons_zero, List.set_cons_succ]
              refine Hd.take (i := 11) (v := ?tv23) hok rfl (by kernel_rfl) (fun _ _ _ h => h) (Or.inl ⟨by rfl, ?ty23⟩) (by assumption) ?tr23
              case ty23 => (intro w hSw; (try dsimp only at hSw); go_simp; (try with_reducible rfl))
              try simp only [List.getElem_toArray, List.getElem_cons_succ, List.getElem_cons_zero, Act.put, List.setIfInBounds_toArray, List.set_cons_zero, List.set_cons_succ]
              refine Hd.take (i := 12) (v := ?tv24) hok rfl (by kernel_rfl) (fun _ _ _ h => h) (Or.inl ⟨by rfl, ?ty24⟩) (by assumption) ?tr24
              case ty24 => (intro w hSw; (try dsimp only at hSw); go_simp; (try with_reducible rfl))
              try simp only [List.getElem_toArray, List.getElem_cons_succ, List.getElem_cons_zero, Act.put, List.setIfInBounds_toArray, List.set_cons_zero, List.set_cons_succ]
              refine Hd.take (i := 13) (v := ?tv25) hok rfl (by kernel_rfl) (fun _ _ _ h => h) (Or.inl ⟨by rfl, ?ty25⟩) (by assumption) ?tr25
              case ty25 => (intro w hSw; (try dsimp only at hSw); go_simp; (try with_reducible rfl))
              try simp only [List.getElem_toArray, List.getElem_cons_succ, List.getElem_cons_zero, Act.put, List.setIfInBounds_toArray, List.set_cons_zero, List.set_cons_succ]
              refine Hd.take (i := 14) (v := ?tv26) hok rfl (by kernel_rfl) (fun _ _ _ h => h) (Or.inl ⟨by rfl, ?ty26⟩) (by assumption) ?tr26
              case ty26 => (intro w hSw; (try dsimp only at hSw); go_simp; (try with_reducible rfl))
              try simp only [List.getElem_toArray, List.getElem_cons_succ, List.getElem_cons_zero, Act.put, List.setIfInBounds_toArray, List.set_cons_zero, List.set_cons_succ]
              refine Hd.take (i := 15) (v := ?tv27) hok rfl (by kernel_rfl) (fun _ _ _ h => h) (Or.inl ⟨by rfl, ?ty27⟩) (by assumption) ?tr27
              case ty27 => (intro w hSw; (try dsimp only at hSw); go_simp; (try with_reducible rfl))
              try simp only [List.getElem_toArray, List.getElem_cons_succ, List.getElem_cons_zero, Act.put, List.setIfInBounds_toArray, List.set_cons_zero, List.set_cons_succ]
              refine Hd.take (i := 16) (v := ?tv28) hok rfl (by kernel_rfl) (fun _ _ _ h => h) (Or.inl ⟨by rfl, ?ty28⟩) (by assumption) ?tr28
              case ty28 => (intro w hSw; (try dsimp only at hSw); go_simp; (try with_reducible rfl))
              try simp only [List.getElem_toArray, List.getElem_cons_succ, List.getElem_cons_zero, Act.put, List.setIfInBounds_toArray, List.set_cons_zero, List.set_cons_succ]
              refine Hd.take (i := 17) (v := ?tv29) hok rfl (by kernel_rfl) (fun _ _ _ h => h) (Or.inl ⟨by rfl, ?ty29⟩) (by assumption) ?tr29
              case ty29 => (intro w hSw; (try dsimp only at hSw); go_simp; (try with_reducible rfl))
              try simp only [List.getElem_toArray, List.getElem_cons_succ, List.getElem_cons_zero, Act.put, List.setIfInBounds_toArray, List.set_cons_zero, List.set_cons_succ]
              refine Hd.take (i := 18) (v := ?tv30) hok rfl (by kernel_rfl) (fun _ _ _ h => h) (Or.inl ⟨by rfl, ?ty30⟩) (by assumption) ?tr30
              case ty30 => (intro w hSw; (try dsimp only at hSw); go_simp; (try with_reducible rfl))
              try simp only [List.getElem_toArray, List.getElem_cons_succ, List.getElem_cons_zero, Act.put, List.setIfInBounds_toArray, List.set_cons_zero, List.set_cons_succ]
              refine Hd.done (by kernel_rfl) ?_
              simp only [List.drop_succ_cons, List.drop_zero]
              clear hok hbL hbB hzd hz5 hcd hcall hb5 hP hB hst hl0 hlu
              have h32p := h32.out
              go_wp2_with fail
              go_roundw
              case rel => exact ⟨j + 1, z.x.uid, by go_num, by omega, hup2, hnx, hzF⟩
              case measure => simp [intOf] <;> omega
            · have hu1 : decide ((z.x.uid : Int) ≤ (last : Int)) = true := decide_eq_true (by omega)
              have hu2 : decide (z.x.uid ≤ last) = true := decide_eq_true (by omega)
              have hbF := Lib.hid hz5.bel
              refine Hd.take (i := 3) (v := ?tv31) hok rfl (by kernel_rfl) (fun _ _ _ h => h) (Or.inl ⟨by rfl, ?ty31⟩) (by assumption) ?tr31
              case ty31 => (intro w hSw; (try dsimp only at hSw); go_simp; (try with_reducible rfl))
              try simp only [List.getElem_toArray, List.getElem_cons_succ, List.getElem_cons_zero, Act.put, List.setIfInBounds_toArray, List.set_cons_zero, List.set_cons_succ]
              refine Hd.take (i := 4) (v := ?tv32) hok rfl (by kernel_rfl) (fun _ _ _ h => h) (Or.inl ⟨by rfl, ?ty32⟩) (by assumption) ?tr32
              case ty32 => (intro w hSw; (try dsimp only at hSw); go_simp; (try with_reducible rfl))
              try simp only [List.getElem_toArray, List.getElem_cons_succ, List.getElem_cons_zero, Act.put, List.setIfInBounds_toArray, List.set_cons_zero, List.set_cons_succ]
              refine Hd.take (i := 5) (v := ?tv33) hok rfl (by kernel_rfl) (fun _ _ _ h => h) (Or.inl ⟨by rfl, ?ty33⟩) (by assumption) ?tr33
              case ty33 => (intro w hSw; (try dsimp only at hSw); go_simp; (try with_reducible rfl))
              try simp only [List.getElem_toArray, List.getElem_cons_succ, List.getElem_cons_zero, Act.put, List.setIfInBounds_toArray, List.set_cons_zero, List.set_cons_succ]
              refine Hd.take (i := 6) (v := ?tv34) hok rfl (by kernel_rfl) (fun _ _ _ h => h) (Or.inl ⟨by rfl, ?ty34⟩) (by assumption) ?tr34
              case ty34 => (intro w hSw; (try dsimp only at hSw); go_simp; (try with_reducible rfl))
              try simp only [List.getElem_toArray, List.getElem_cons_succ, List.getElem_cons_zero, Act.put, List.setIfInBounds_toArray, List.set_cons_zero, List.set_cons_succ]
              refine Hd.take (i := 7) (v := ?tv35) hok rfl (by kernel_rfl) (fun _ _ _ h => h) (Or.inl ⟨by rfl, ?ty35⟩) (by assumption) ?tr35
              case ty35 => (intro w hSw; (try dsimp only at hSw); go_simp; (try with_reducible rfl))
              try simp only [List.getElem_toArray, List.getElem_cons_succ, List.getElem_cons_zero, Act.put, List.setIfInBounds_toArray, List.set_cons_zero, List.set_cons_succ]
              refine Hd.take (i := 8) (v := ?tv36) hok rfl (by kernel_rfl) (fun _ _ _ h => h) (Or.inl ⟨by rfl, ?ty36⟩) (by assumption) ?tr36
              case ty36 => (intro w hSw; (try dsimp only at hSw); go_simp; (try with_reducible rfl))
              try simp only [List.getElem_toArray, List.getElem_cons_succ, List.getElem_cons_zero, Act.put, List.setIfInBounds_toArray, List.set_cons_zero, List.set_cons_succ]
              refine Hd.take (i := 9) (v := ?tv37) hok rfl (by kernel_rfl) (fun _ _ _ h => h) (Or.inl ⟨by rfl, ?ty37⟩) (by assumption) ?tr37
              case ty37 => (intro w hSw; (try dsimp only at hSw); go_simp; (try with_reducible rfl))
              try simp only [List.getElem_toArray, List.getElem_cons_succ, List.getElem_cons_zero, Act.put, List.setIfInBounds_toArray, List.set_cons_zero, List.set_cons_succ]
              refine Hd.take (i := 10) (v := ?tv38) hok rfl (by kernel_rfl) (fun _ _ _ h => h) (Or.inl ⟨by rfl, ?ty38⟩) (by assumption) ?tr38
              case ty38 => (intro w hSw; (try dsimp only at hSw); go_simp; (try with_reducible rfl))
              try simp only [List.getElem_toArray, List.getElem_cons_succ, List.getElem_cons_zero, Act.put, List.setIfInBounds_toArray, List.set_cons_zero, List.set_cons_succ]
              refine Hd.take (i := 11) (v := ?tv39) hok rfl (by kernel_rfl) (fun _ _ _ h => h) (Or.inl ⟨by rfl, ?ty39⟩) (by assumption) ?tr39
              case ty39 => (intro w hSw; (try dsimp only at hSw); go_simp; (try with_reducible rfl))
              try simp only [List.getElem_toArray, List.getElem_cons_succ, List.getElem_cons_zero, Act.put, List.setIfInBounds_toArray, List.set_cons_zero, List.set_cons_succ]
              refine Hd.take (i := 12) (v := ?tv40) hok rfl (by kernel_rfl) (fun _ _ _ h => h) (Or.inl ⟨by rfl, ?ty40⟩) (by assumption) ?tr40
              case ty40 => (intro w hSw; (try dsimp only at hSw); go_simp; (try with_reducible rfl))
              try simp only [List.getElem_toArray, List.getElem_cons_succ, List.getElem_cons_zero, Act.put, List.setIfInBounds_toArray, List.set_cons_zero, List.set_cons_succ]
              refine Hd.take (i := 13) (v := ?tv41) hok rfl (by kernel_rfl) (fun _ _ _ h => h) (Or.inl ⟨by rfl, ?ty41⟩) (by assumption) ?tr41
              case ty41 => (intro w hSw; (try dsimp only at hSw); go_simp; (try with_reducible rfl))
              try simp only [List.getElem_toArray, List.getElem_cons_succ, List.getElem_cons_zero, Act.put, List.setIfInBounds_toArray, List.set_cons_zero, List.set_cons_succ]
              refine Hd.take (i := 14) (v := ?tv42) hok rfl (by kernel_rfl) (fun _ _ _ h => h) (Or.inl ⟨by rfl, ?ty42⟩) (by assumption) ?tr42
              case ty42 => (intro w hSw; (try dsimp only at hSw); go_simp; (try with_reducible rfl))
              try simp only [List.getElem_toArray, List.getElem_cons_succ, List.getElem_cons_zero, Act.put, List.setIfInBounds_toArray, List.set_cons_zero, List.set_cons_succ]
              refine Hd.take (i := 15) (v := ?tv43) hok rfl (by kernel_rfl) (fun _ _ _ h => h) (Or.inl ⟨by rfl, ?ty43⟩) (by assumption) ?tr43
              case ty43 => (intro w hSw; (try dsimp only at hSw); go_simp; (try with_reducible rfl))
              try simp only [List.getElem_toArray, List.getElem_cons_succ, List.getElem_cons_zero, Act.put, List.setIfInBounds_toArray, List.set_cons_zero, List.set_cons_succ]
              refine Hd.take (i := 16) (v := ?tv44) hok rfl (by kernel_rfl) (fun _ _ _ h => h) (Or.inl ⟨by rfl, ?ty44⟩) (by assumption) ?tr44
              case ty44 => (intro w hSw; (try dsimp only at hSw); go_simp; (try with_reducible rfl))
              try simp only [List.getElem_toArray, List.getElem_cons_succ, List.getElem_cons_zero, Act.put, List.setIfInBounds_toArray, List.set_cons_zero, List.set_cons_succ]
              refine Hd.take (i := 17) (v := ?tv45) hok rfl (by kernel_rfl) (fun _ _ _ h => h) (Or.inl ⟨by rfl, ?ty45⟩) (by assumption) ?tr45
              case ty45 => (intro w hSw; (try dsimp only at hSw); go_simp; (try with_reducible rfl))
              try simp only [List.getElem_toArray, List.getElem_cons_succ, List.getElem_cons_zero, Act.put, List.setIfInBounds_toArray, List.set_cons_zero, List.set_cons_succ]
              refine Hd.take (i := 18) (v := ?tv46) hok rfl (by kernel_rfl) (fun _ _ _ h => h) (Or.inl ⟨by rfl, ?ty46⟩) (by assumption) ?tr46
              case ty46 => (intro w hSw; (try dsimp only at hSw); go_simp; (try with_reducible rfl))
              try simp only [List.getElem_toArray, List.getElem_cons_succ, List.getElem_cons_zero, Act.put, List.setIfInBounds_toArray, List.set_cons_zero, List.set_cons_succ]
              refine Hd.done (by kernel_rfl) ?_
              simp only [List.drop_succ_cons, List.drop_zero]
              clear hok hbL hbB hzd hz5 hcd hcall hb5 hP hB hst hl0 hlu hzF hz
              go_wp2_with fail
              go_ret
              first | exact ⟨rfl, hbF⟩ | (rw [← hMB]; exact ⟨rfl, hbF⟩)
      · obtain rfl : j = rows.length := by omega
        exact absurd (hn2.out _ hup.out) id
theorem boxRight_any {W : World} (X : BxV) (next : Nat) (hin : LtsIn W X.v X.rows) (hns : X.name.size ≤ maxLen) (hrl : X.rows.length ≤ 100000) (hlf : ∀ y ∈ X.rows, y.x.flags.length ≤ 10000 ∧ Sized y.x.flags) :
    Calls Tryz.prog 45 #[.agg #[.string X.name, .int .u64 X.validity, .int .u64 X.next, .int .u64 X.high, .slice X.a X.rows.length X.c], .int .u64 next] W (YesNo (BoxP X.b next) W) := by
  by_cases hp : BoxP X.b next
  · exact (boxRight_yes X next hp hin).mono (fun _ _ h => yn_yes hp h)
  · exact (boxRight_no X next hp hin hns hrl hlf).mono (fun _ _ h => yn_no hp h)
end Go.Proofs.YtpkaoiadjffjiaaGreat
