/- ViewLooks: walked. IndexFunc and DeleteFunc at seats and letters, whatever the closure has captured: walked. seqset.Has: walked. The work of a request, as things in memory; sweep, look, end: walked. great of layer 22: what it counts. (written by tools/gen_Vt.py out of MmI) -/
import Derived.Test.YtcnebfmlelcliaaB17
import Derived.Test.YtcnebfmlelcliaaB10
import Derived.Test.YtcnebfmlelcliaaB05
import Derived.Test.YtcnebfmlelcliaaB02
import Derived.Test.YtcnebfmlelcliaaB08
import Derived.Lib.MinMax
import Derived.Deep.QuietTactic
namespace Go.Proofs.Ytcnebfmlelcliaa
set_option linter.unusedSimpArgs false
open Go.RowKit
attribute [local go_sem ↓] Go.wp_at_zero Go.wp_at_succ

theorem meantV_any (s : ByteArray) (val : Nat) (rs l : List (Nat × Nat)) (v vl : Value) (byUid : Bool) (w : World) (hl : l.length ≤ 1000000) (hl2 : rs.length ≤ 1000000) (hk : RangesIn w w.heap.size v l) (hr : RangesIn w w.heap.size vl rs) :
    Calls Try.prog 14 #[.agg #[.string s, .int .u64 val, v], vl, .bool byUid] w (VMeantRet rs l byUid w) := by
  cases byUid with
  | true => exact meantUid_any s val rs l v vl w hl hl2 hk hr
  | false => exact meantNum_any s val rs l v vl w hl hl2 hk hr
def looksS (VB BB : Nat) (s : ByteArray) (val : Nat) (vr : Value) (nm : ByteArray) (vl nx hi : Nat) (a : Option Addr) (n c : Nat) (w' : World) : Prop := (w'.cell? ⟨VB, 0, none⟩ = some (.string s) ∧ w'.cell? ⟨VB, 1, none⟩ = some (.int .u64 val) ∧ w'.cell? ⟨VB, 2, none⟩ = some vr) ∧ (w'.cell? ⟨BB, 0, none⟩ = some (.string nm) ∧ w'.cell? ⟨BB, 1, none⟩ = some (.int .u64 vl) ∧ w'.cell? ⟨BB, 2, none⟩ = some (.int .u64 nx) ∧ w'.cell? ⟨BB, 3, none⟩ = some (.int .u64 hi) ∧ w'.cell? ⟨BB, 4, none⟩ = some (.slice a n c))
set_option maxRecDepth 100000 in
set_option maxHeartbeats 32000000 in
theorem viewLooks_walk (s : ByteArray) (val : Nat) (l rs : List (Nat × Nat)) (vr vl vu : Value) (z : BxV) (uid : Nat) (us : List Nat) (W : World) (hk : RangesIn W W.heap.size vr l) (hb : LtsIn W z.v z.rows) (hr : RangesIn W W.heap.size vl rs) (hu : Rd W vu us.length (us.map encU)) (hus : ∀ x ∈ us, x < 18446744073709551616) :
    Calls Try.prog 3 #[.agg #[.string s, .int .u64 val, vr], .agg #[.string z.name, .int .u64 z.validity, .int .u64 z.next, .int .u64 z.high, .slice z.a z.rows.length z.c], vl, .int .u64 uid, vu] W fun e w' => e = .returned (.bool true) ∧ Below W.heap.size W w' := by
  obtain ⟨nm, vy, nx, hi, rows, a, c⟩ := z
  dsimp only at hb ⊢
  have hk0 := Lib.hid (fun (w' : World) (h : Below W.heap.size W w') => hk.on h)
  have hb0 := Lib.hid (fun (w' : World) (h : Below W.heap.size W w') => hb.below h)
  have hr0 := Lib.hid (fun (w' : World) (h : Below W.heap.size W w') => hr.on h)
  have hu0 := Lib.hid (fun (w' : World) (h : Below W.heap.size W w') => hu.below h)
  obtain ⟨av, cv, hv, -⟩ := hk
  subst hv
  obtain ⟨al, cl, hv, -⟩ := hr
  subst hv
  obtain ⟨au, cu, hv, -⟩ := hu
  subst hv
  have hz1 := (Zoo.nil W).newBox [.string s, .int .u64 val, .slice av l.length cv].toArray 25
  generalize hVB : W.heap.size = VB at hz1
  generalize hWa : (W.alloc (.cells [.string s, .int .u64 val, .slice av l.length cv].toArray 25)) = Wa at hz1
  have hz2 := hz1.newBox [.string nm, .int .u64 vy, .int .u64 nx, .int .u64 hi, .slice a rows.length c].toArray 28
  generalize hBB : Wa.heap.size = BB at hz2
  generalize hWb : (Wa.alloc (.cells [.string nm, .int .u64 vy, .int .u64 nx, .int .u64 hi, .slice a rows.length c].toArray 28)) = Wb at hz2
  have hV : Hid (∀ w', Below Wb.heap.size Wb w' → (w'.cell? ⟨VB, 0, none⟩ = some (.string s) ∧ w'.cell? ⟨VB, 1, none⟩ = some (.int .u64 val) ∧ w'.cell? ⟨VB, 2, none⟩ = some (.slice av l.length cv)) ∧ (w'.cell? ⟨BB, 0, none⟩ = some (.string nm) ∧ w'.cell? ⟨BB, 1, none⟩ = some (.int .u64 vy) ∧ w'.cell? ⟨BB, 2, none⟩ = some (.int .u64 nx) ∧ w'.cell? ⟨BB, 3, none⟩ = some (.int .u64 hi) ∧ w'.cell? ⟨BB, 4, none⟩ = some (.slice a rows.length c))) := Lib.hid (fun w' hB => by
    have h1 := heap_below (hz2.box 1 rfl).1 hB
    have h2 := heap_below (hz2.box 0 rfl).1 hB
    exact ⟨⟨box_cell h1 0, box_cell h1 1, box_cell h1 2⟩, box_cell h2 0, box_cell h2 1, box_cell h2 2, box_cell h2 3, box_cell h2 4⟩)
  have hbW := Lib.hid hz2.bel
  have hal := Lib.hid (aliveV_any Wb)
  replace hus := Lib.hid hus
  clear hz1 hz2 hb
  go_enter Try.func3, Try.ntmps3
  go_upto_region 1 with fail
  clear hWa hWb
  go_wp2_with fail
  refine hal.out.mono ?_
  rintro e w1 ⟨rfl, hb1⟩
  have hB1 := Lib.hid (hbW.out.trans (hb1.out.mono hbW.out.size))
  have hli := Lib.hid (lightV_any s val l (.slice av l.length cv) ⟨nm, vy, nx, hi, rows, a, c⟩ w1 (hk0.out _ hB1.out) (hb0.out _ hB1.out))
  dsimp only at hli
  obtain ⟨⟨x0, x1, x2⟩, y0, y1, y2, y3, y4⟩ := hV.out w1 hb1.out
  clear hal
  go_wp2_with fail
  refine hli.out.mono ?_
  rintro e w2 ⟨rfl, hb2⟩
  have hB2 := Lib.hid (hB1.out.trans (hb2.out.mono hB1.out.size))
  have hb12 := Lib.hid (hb1.out.trans (hb2.out.mono hb1.out.size))
  have hal2 := Lib.hid (aliveV_any w2)
  clear hli hb1 hb2 hB1 x0 x1 x2 y0 y1 y2 y3 y4
  have hend : Hid (∀ w3, Below w2.heap.size w2 w3 → Below W.heap.size W w3) := Lib.hid (fun w3 h => hB2.out.trans (h.mono hB2.out.size))
  cases hL : lightV l rows with
  | false =>
    replace hL := Lib.hid hL
    go_wp2_with fail
    refine hal2.out.mono ?_
    rintro e w3 ⟨rfl, hb3⟩
    have hbE := Lib.hid (hend.out w3 hb3.out)
    go_wp2_with fail
    go_ret
    exact ⟨rfl, by first | exact hbE.out | (rw [← hVB]; exact hbE.out)⟩
  | true =>
    have hl3 : l.length ≤ 300 ∧ rows.length ≤ 300 := by
      unfold lightV at hL
      simp only [Bool.and_eq_true, decide_eq_true_eq] at hL
      exact hL.1
    obtain ⟨hl3, hr3⟩ := hl3
    replace hL := Lib.hid hL
    by_cases c1 : 100 < rs.length
    · have c1' : (100 : Int) < (rs.length : Int) := by omega
      go_wp2_with fail
      refine hal2.out.mono ?_
      rintro e w3 ⟨rfl, hb3⟩
      have hbE := Lib.hid (hend.out w3 hb3.out)
      go_wp2_with fail
      go_ret
      exact ⟨rfl, by first | exact hbE.out | (rw [← hVB]; exact hbE.out)⟩
    have c1' : ¬ (100 : Int) < (rs.length : Int) := by omega
    by_cases c2 : 100 < us.length
    · have c2' : (100 : Int) < (us.length : Int) := by omega
      go_wp2_with fail
      refine hal2.out.mono ?_
      rintro e w3 ⟨rfl, hb3⟩
      have hbE := Lib.hid (hend.out w3 hb3.out)
      go_wp2_with fail
      go_ret
      exact ⟨rfl, by first | exact hbE.out | (rw [← hVB]; exact hbE.out)⟩
    have c2' : ¬ (100 : Int) < (us.length : Int) := by omega
    have c1b : rs.length ≤ 100 := by omega
    have c2b : us.length ≤ 100 := by omega
    clear hal2 hend c1 c2 hL
    go_upto_region 3 with fail
    clear c1' c2'
    have hBd := hB2.out.drew
    have hbd := hb12.out.drew
    refine wp_region_hd (fun w' => (w'.cell? ⟨VB, 0, none⟩ = some (.string s) ∧ w'.cell? ⟨VB, 1, none⟩ = some (.int .u64 val) ∧ w'.cell? ⟨VB, 2, none⟩ = some (.slice av l.length cv)) ∧ (w'.cell? ⟨BB, 0, none⟩ = some (.string nm) ∧ w'.cell? ⟨BB, 1, none⟩ = some (.int .u64 vy) ∧ w'.cell? ⟨BB, 2, none⟩ = some (.int .u64 nx) ∧ w'.cell? ⟨BB, 3, none⟩ = some (.int .u64 hi) ∧ w'.cell? ⟨BB, 4, none⟩ = some (.slice a rows.length c))) 24 1 (by kernel_rfl) rfl ⟨by kernel_rfl, by kernel_rfl, by kernel_rfl, by decide⟩ (hV.out _ hbd) (fun hok hS0 => ?_)
    generalize w2.drew = wd at *
    clear hB2 hb12
    refine Hd.take (i := 0) (v := ?tv74) hok rfl (by kernel_rfl) (fun _ _ _ h => h) (Or.inl ⟨by rfl, ?ty74⟩) (by assumption) ?tr74
    case ty74 => (intro w hSw; (try dsimp only at hSw); go_simp; (try with_reducible rfl))
    try simp only [List.getElem_toArray, List.getElem_cons_succ, List.getElem_cons_zero, Act.put, List.setIfInBounds_toArray, List.set_cons_zero, List.set_cons_succ]
    refine Hd.take (i := 2) (v := ?tv75) hok rfl (by kernel_rfl) (fun _ _ _ h => h) (Or.inl ⟨by rfl, ?ty75⟩) (by assumption) ?tr75
    case ty75 => (intro w hSw; (try dsimp only at hSw); go_simp; (try with_reducible rfl))
    try simp only [List.getElem_toArray, List.getElem_cons_succ, List.getElem_cons_zero, Act.put, List.setIfInBounds_toArray, List.set_cons_zero, List.set_cons_succ]
    refine Hd.one (i := 1) rfl (by kernel_rfl) (fun K hK => ?_)
    go_simp
    refine (openV_any ⟨nm, vy, nx, hi, rows, a, c⟩ wd (by show rows.length ≤ 100000; omega) (hb0.out wd hBd)).mono ?_
    rintro e w3 ⟨v3, rfl, hz3⟩
    dsimp only
    have hb3 := hbd.trans (hz3.out.bel.mono hbd.size)
    have hB3 := hBd.trans (hz3.out.bel.mono hBd.size)
    have hv3 := (hz3.out.ownC 0 rfl).rd.ranges
    refine hK _ _ (hV.out _ hb3) ?_
    clear hK K
    try simp only [List.getElem_toArray, List.getElem_cons_succ, List.getElem_cons_zero, Act.put, List.setIfInBounds_toArray, List.set_cons_zero, List.set_cons_succ]
    refine Hd.one (i := 3) rfl (by kernel_rfl) (fun K hK => ?_)
    go_simp
    refine (refOpenV_any ⟨nm, vy, nx, hi, rows, a, c⟩ w3 (by show rows.length ≤ 100000; omega) (hb0.out w3 hB3)).mono ?_
    rintro e w4 ⟨v4, rfl, hz4⟩
    dsimp only
    have hb4 := hb3.trans (hz4.out.bel.mono hb3.size)
    have hB4 := hB3.trans (hz4.out.bel.mono hB3.size)
    have hv34 := hv3.on hz4.out.bel
    have hv4 := (hz4.out.ownC 0 rfl).rd.ranges
    refine hK _ _ (hV.out _ hb4) ?_
    clear hK K
    try simp only [List.getElem_toArray, List.getElem_cons_succ, List.getElem_cons_zero, Act.put, List.setIfInBounds_toArray, List.set_cons_zero, List.set_cons_succ]
    refine Hd.one (i := 4) rfl (by kernel_rfl) (fun K hK => ?_)
    go_simp
    refine (same22_any nm vy (rows.map ltRow) v3 v4 w4 (by rw [List.length_map]; omega) hv34 hv4).mono ?_
    rintro e w5 ⟨rfl, hb5⟩
    dsimp only
    have hb6 := hb4.trans (hb5.out.mono hb4.size)
    have hB6 := hB4.trans (hb5.out.mono hB4.size)
    have hSn := hV.out _ hb6
    refine hK _ _ hSn ?_
    clear hK K hz3 hz4 hv3 hv34 hv4 hb5 hb3 hb4 hB3 hB4 hbd hBd hS0
    try simp only [List.getElem_toArray, List.getElem_cons_succ, List.getElem_cons_zero, Act.put, List.setIfInBounds_toArray, List.set_cons_zero, List.set_cons_succ]
    refine Hd.take (i := 5) (v := ?tv76) hok rfl (by kernel_rfl) (fun _ _ _ h => h) (Or.inl ⟨by rfl, ?ty76⟩) (by assumption) ?tr76
    case ty76 => (intro w hSw; (try dsimp only at hSw); go_simp; (try with_reducible rfl))
    try simp only [List.getElem_toArray, List.getElem_cons_succ, List.getElem_cons_zero, Act.put, List.setIfInBounds_toArray, List.set_cons_zero, List.set_cons_succ]
    refine Hd.take (i := 6) (v := ?tv77) hok rfl (by kernel_rfl) (fun _ _ _ h => h) (Or.inl ⟨by rfl, ?ty77⟩) (by assumption) ?tr77
    case ty77 => (intro w hSw; (try dsimp only at hSw); go_simp; (try with_reducible rfl))
    try simp only [List.getElem_toArray, List.getElem_cons_succ, List.getElem_cons_zero, Act.put, List.setIfInBounds_toArray, List.set_cons_zero, List.set_cons_succ]
    refine Hd.take (i := 7) (v := ?tv78) hok rfl (by kernel_rfl) (fun _ _ _ h => h) (Or.inl ⟨by rfl, ?ty78⟩) (by assumption) ?tr78
    case ty78 => (intro w hSw; (try dsimp only at hSw); go_simp; (try with_reducible rfl))
    try simp only [List.getElem_toArray, List.getElem_cons_succ, List.getElem_cons_zero, Act.put, List.setIfInBounds_toArray, List.set_cons_zero, List.set_cons_succ]
    refine Hd.take (i := 8) (v := ?tv79) hok rfl (by kernel_rfl) (fun _ _ _ h => h) (Or.inl ⟨by rfl, ?ty79⟩) (by assumption) ?tr79
    case ty79 => (intro w hSw; (try dsimp only at hSw); go_simp; (try with_reducible rfl))
    try simp only [List.getElem_toArray, List.getElem_cons_succ, List.getElem_cons_zero, Act.put, List.setIfInBounds_toArray, List.set_cons_zero, List.set_cons_succ]
    refine Hd.take (i := 10) (v := ?tv80) hok rfl (by kernel_rfl) (fun _ _ _ h => h) (Or.inl ⟨by rfl, ?ty80⟩) (by assumption) ?tr80
    case ty80 => (intro w hSw; (try dsimp only at hSw); go_simp; (try with_reducible rfl))
    try simp only [List.getElem_toArray, List.getElem_cons_succ, List.getElem_cons_zero, Act.put, List.setIfInBounds_toArray, List.set_cons_zero, List.set_cons_succ]
    refine Hd.take (i := 11) (v := ?tv81) hok rfl (by kernel_rfl) (fun _ _ _ h => h) (Or.inl ⟨by rfl, ?ty81⟩) (by assumption) ?tr81
    case ty81 => (intro w hSw; (try dsimp only at hSw); go_simp; (try with_reducible rfl))
    try simp only [List.getElem_toArray, List.getElem_cons_succ, List.getElem_cons_zero, Act.put, List.setIfInBounds_toArray, List.set_cons_zero, List.set_cons_succ]
    clear hSn
    have hs1 := Lib.hid (seq_any s val l (.slice av l.length cv) uid w5 (by omega) (hk0.out _ hB6))
    have hs2 := Lib.hid (fun w' (h : Below W.heap.size W w') => refSeq_any s val l (.slice av l.length cv) uid w' (by omega) (hk0.out _ h))
    generalize seqN l uid = sq at hs1 hs2
    have hne : ((sq : Int) != (sq : Int)) = false := by simp
    refine Hd.one (i := 9) rfl (by kernel_rfl) (fun K hK => ?_)
    go_simp
    refine hs1.out.mono ?_
    rintro e w6 ⟨rfl, hb5⟩
    dsimp only
    have hb7 := hb6.trans (hb5.out.mono hb6.size)
    have hB7 := hB6.trans (hb5.out.mono hB6.size)
    refine hK _ _ (hV.out _ hb7) ?_
    clear hK K hb5 hb6 hB6 hs1
    try simp only [List.getElem_toArray, List.getElem_cons_succ, List.getElem_cons_zero, Act.put, List.setIfInBounds_toArray, List.set_cons_zero, List.set_cons_succ]
    refine Hd.one (i := 12) rfl (by kernel_rfl) (fun K hK => ?_)
    go_simp
    refine (hs2.out _ hB7).mono ?_
    rintro e w7 ⟨rfl, hb5⟩
    dsimp only
    have hb8 := hb7.trans (hb5.out.mono hb7.size)
    have hB8 := hB7.trans (hb5.out.mono hB7.size)
    have hSn := hV.out _ hb8
    refine hK _ _ hSn ?_
    clear hK K hb5 hb7 hB7 hs2
    try simp only [List.getElem_toArray, List.getElem_cons_succ, List.getElem_cons_zero, Act.put, List.setIfInBounds_toArray, List.set_cons_zero, List.set_cons_succ]
    refine Hd.take (i := 13) (v := ?tv82) hok rfl (by kernel_rfl) (fun _ _ _ h => h) (Or.inl ⟨by rfl, ?ty82⟩) (by assumption) ?tr82
    case ty82 => (intro w hSw; (try dsimp only at hSw); go_simp; (try with_reducible rfl))
    try simp only [List.getElem_toArray, List.getElem_cons_succ, List.getElem_cons_zero, Act.put, List.setIfInBounds_toArray, List.set_cons_zero, List.set_cons_succ]
    refine Hd.take (i := 14) (v := ?tv83) hok rfl (by kernel_rfl) (fun _ _ _ h => h) (Or.inl ⟨by rfl, ?ty83⟩) (by assumption) ?tr83
    case ty83 => (intro w hSw; (try dsimp only at hSw); go_simp; (try with_reducible rfl))
    try simp only [List.getElem_toArray, List.getElem_cons_succ, List.getElem_cons_zero, Act.put, List.setIfInBounds_toArray, List.set_cons_zero, List.set_cons_succ]
    refine Hd.take (i := 15) (v := ?tv84) hok rfl (by kernel_rfl) (fun _ _ _ h => h) (Or.inl ⟨by rfl, ?ty84⟩) (by assumption) ?tr84
    case ty84 => (intro w hSw; (try dsimp only at hSw); go_simp; (try with_reducible rfl))
    try simp only [List.getElem_toArray, List.getElem_cons_succ, List.getElem_cons_zero, Act.put, List.setIfInBounds_toArray, List.set_cons_zero, List.set_cons_succ]
    refine Hd.take (i := 16) (v := ?tv85) hok rfl (by kernel_rfl) (fun _ _ _ h => h) (Or.inl ⟨by rfl, ?ty85⟩) (by assumption) ?tr85
    case ty85 => (intro w hSw; (try dsimp only at hSw); go_simp; (try with_reducible rfl))
    try simp only [List.getElem_toArray, List.getElem_cons_succ, List.getElem_cons_zero, Act.put, List.setIfInBounds_toArray, List.set_cons_zero, List.set_cons_succ]
    refine Hd.take (i := 17) (v := ?tv86) hok rfl (by kernel_rfl) (fun _ _ _ h => h) (Or.inl ⟨by rfl, ?ty86⟩) (by assumption) ?tr86
    case ty86 => (intro w hSw; (try dsimp only at hSw); go_simp; (try with_reducible rfl))
    try simp only [List.getElem_toArray, List.getElem_cons_succ, List.getElem_cons_zero, Act.put, List.setIfInBounds_toArray, List.set_cons_zero, List.set_cons_succ]
    refine Hd.take (i := 19) (v := ?tv87) hok rfl (by kernel_rfl) (fun _ _ _ h => h) (Or.inl ⟨by rfl, ?ty87⟩) (by assumption) ?tr87
    case ty87 => (intro w hSw; (try dsimp only at hSw); go_simp; (try with_reducible rfl))
    try simp only [List.getElem_toArray, List.getElem_cons_succ, List.getElem_cons_zero, Act.put, List.setIfInBounds_toArray, List.set_cons_zero, List.set_cons_succ]
    refine Hd.take (i := 20) (v := ?tv88) hok rfl (by kernel_rfl) (fun _ _ _ h => h) (Or.inl ⟨by rfl, ?ty88⟩) (by assumption) ?tr88
    case ty88 => (intro w hSw; (try dsimp only at hSw); go_simp; (try with_reducible rfl))
    try simp only [List.getElem_toArray, List.getElem_cons_succ, List.getElem_cons_zero, Act.put, List.setIfInBounds_toArray, List.set_cons_zero, List.set_cons_succ]
    clear hSn hne
    refine Hd.one (i := 18) rfl (by kernel_rfl) (fun K hK => ?_)
    go_simp
    refine (told_any s val l (.slice av l.length cv) uid 77 w7 (by omega) (hk0.out _ hB8)).mono ?_
    rintro e w8 ⟨v8, rfl, hz8, hb5⟩
    dsimp only
    have hb9 := hb8.trans (hb5.out.mono hb8.size)
    have hB9 := hB8.trans (hb5.out.mono hB8.size)
    have hv8 := hz8.out.ranges
    refine hK _ _ (hV.out _ hb9) ?_
    clear hK K hb5 hb8 hB8
    try simp only [List.getElem_toArray, List.getElem_cons_succ, List.getElem_cons_zero, Act.put, List.setIfInBounds_toArray, List.set_cons_zero, List.set_cons_succ]
    refine Hd.one (i := 21) rfl (by kernel_rfl) (fun K hK => ?_)
    go_simp
    refine (refToldV_any s val l (.slice av l.length cv) uid 77 w8 (by omega) (hk0.out _ hB9)).mono ?_
    rintro e w9 ⟨v9, rfl, hz9⟩
    dsimp only
    have hb10 := hb9.trans (hz9.out.bel.mono hb9.size)
    have hB10 := hB9.trans (hz9.out.bel.mono hB9.size)
    have hv89 := hv8.on hz9.out.bel
    have hv9 := (hz9.out.ownC 0 rfl).rd.ranges
    refine hK _ _ (hV.out _ hb10) ?_
    clear hK K hb9 hB9
    try simp only [List.getElem_toArray, List.getElem_cons_succ, List.getElem_cons_zero, Act.put, List.setIfInBounds_toArray, List.set_cons_zero, List.set_cons_succ]
    refine Hd.one (i := 22) rfl (by kernel_rfl) (fun K hK => ?_)
    go_simp
    refine (same22_any s val (tellL l uid 77) v8 v9 w9 (by rw [tellL_len]; omega) hv89 hv9).mono ?_
    rintro e w10 ⟨rfl, hb5⟩
    dsimp only
    have hb11 := hb10.trans (hb5.out.mono hb10.size)
    have hB11 := hB10.trans (hb5.out.mono hB10.size)
    have hSn := hV.out _ hb11
    refine hK _ _ hSn ?_
    clear hK K hb5 hb10 hB10 hv8 hv89 hv9 hz8 hz9
    try simp only [List.getElem_toArray, List.getElem_cons_succ, List.getElem_cons_zero, Act.put, List.setIfInBounds_toArray, List.set_cons_zero, List.set_cons_succ]
    refine Hd.take (i := 23) (v := ?tv89) hok rfl (by kernel_rfl) (fun _ _ _ h => h) (Or.inl ⟨by rfl, ?ty89⟩) (by assumption) ?tr89
    case ty89 => (intro w hSw; (try dsimp only at hSw); go_simp; (try with_reducible rfl))
    try simp only [List.getElem_toArray, List.getElem_cons_succ, List.getElem_cons_zero, Act.put, List.setIfInBounds_toArray, List.set_cons_zero, List.set_cons_succ]
    refine Hd.done (by kernel_rfl) ?_
    simp only [List.drop_succ_cons, List.drop_zero]
    clear hSn hok
    replace hb11 := Lib.hid hb11
    replace hB11 := Lib.hid hB11
    generalize w10 = w0 at *
    go_wp2_with fail
    go_loopw [11, 12, 13, 14, 15] (fun v11 _ _ _ _ wr => ∃ q : Nat, v11 = .int .i64 q ∧ q ≤ 2 ∧ Hid (Below w0.heap.size w0 wr)) (fun v11 _ _ _ _ _ => 2 - (intOf v11).toNat)
    case atStart => exact ⟨0, rfl, by decide, Lib.hid (Below.refl _ _)⟩
    case round =>
      obtain ⟨q, rfl, hq, hb⟩ := hrel
      by_cases hlt : q < 2
      · have hB := Lib.hid (hB11.out.trans (hb.out.mono hB11.out.size))
        have hbb := Lib.hid (hb11.out.trans (hb.out.mono hb11.out.size))
        have hlt1 : (q : Int) < 2 := by omega
        obtain ⟨byUid, hby⟩ : ∃ b, ((q : Int) == 0) = b := ⟨_, rfl⟩
        have hme := Lib.hid (fun w' (h : Below W.heap.size W w') => meantV_any s val rs l (.slice av l.length cv) (.slice al rs.length cl) byUid w' (by omega) (by omega) (hk0.out _ h) (hr0.out _ h))
        have hrm := Lib.hid (fun w' (h : Below W.heap.size W w') => refMeantV_any s val rs l (.slice av l.length cv) (.slice al rs.length cl) byUid w' (by omega) (by omega) (hk0.out _ h) (hr0.out _ h))
        obtain ⟨⟨x0, x1, x2⟩, -⟩ := hV.out wr hbb.out
        have hm1 := Lib.hid (hme.out wr hB.out)
        clear hme
        go_upto_region 8 with fail
        go_wp2_with fail
        refine hm1.out.mono ?_
        rintro e w3 ⟨v3, rfl, ho3, hb3⟩
        dsimp only
        have hB3 := Lib.hid (hB.out.trans (hb3.out.mono hB.out.size))
        have hbb3 := Lib.hid (hbb.out.trans (hb3.out.mono hbb.out.size))
        have hb03 := Lib.hid (hb.out.trans (hb3.out.mono hb.out.size))
        clear hm1 x0 x1 x2 hB hbb hb hb3
        obtain ⟨⟨x0, x1, x2⟩, -⟩ := hV.out w3 hbb3.out
        have hm2 := Lib.hid (hrm.out w3 hB3.out)
        clear hrm
        obtain ⟨ns, hns⟩ : ∃ ns, (if (!byUid && outL rs l.length) = true then [] else meantN rs l byUid l.length) = ns := ⟨_, rfl⟩
        rw [hns] at ho3
        obtain ⟨BO, hBO⟩ : ∃ BO, (!(!byUid && outL rs l.length)) = BO := ⟨_, rfl⟩
        rw [hBO]
        have hnl : Hid (ns.length ≤ 300) := Lib.hid (by
          rw [← hns]
          split
          · exact Nat.zero_le _
          · have := meantN_len rs l byUid l.length; omega)
        obtain ⟨a3, c3, hv3⟩ := ho3.out.len
        subst hv3
        replace hns := Lib.hid hns
        replace hBO := Lib.hid hBO
        go_wp2_with fail
        refine hm2.out.mono ?_
        rintro e w4 ⟨v4, rfl, ho4, hb4⟩
        dsimp only
        rw [hns.out] at ho4
        rw [hBO.out]
        obtain ⟨a4, c4, hv4⟩ := ho4.out.len
        subst hv4
        have hB4 := Lib.hid (hB3.out.trans (hb4.out.mono hB3.out.size))
        have hbb4 := Lib.hid (hbb3.out.trans (hb4.out.mono hbb3.out.size))
        have hb04 := Lib.hid (hb03.out.trans (hb4.out.mono hb03.out.size))
        have ho34 := Lib.hid (ho3.out.below hb4.out)
        clear hm2 x0 x1 x2 hB3 hbb3 hb03 hb4 ho3
        go_upto_region 10 with fail
        have hBd := hB4.out.drew
        have hbbd := hbb4.out.drew
        have hb0d := hb04.out.drew
        have hdr := (Below.refl w4.heap.size w4).drew
        have hsn := sameNums_any (.slice a3 ns.length c3) (.slice a4 ns.length c4) ns ns w4.drew (ho34.out.below hdr).rd (ho4.out.below hdr).rd (by have := hnl.out; omega)
        rw [decide_eq_true rfl] at hsn
        replace hsn := Lib.hid hsn
        obtain ⟨hx, -⟩ := hV.out _ hbbd
        have hneB : (BO != BO) = false := by simp
        refine wp_region_hd (fun w' => w'.cell? ⟨VB, 0, none⟩ = some (.string s) ∧ w'.cell? ⟨VB, 1, none⟩ = some (.int .u64 val) ∧ w'.cell? ⟨VB, 2, none⟩ = some (.slice av l.length cv)) 22 1 (by kernel_rfl) rfl ⟨by kernel_rfl, by kernel_rfl, by kernel_rfl, by decide⟩ hx (fun hok hS0 => ?_)
        generalize w4.drew = wd at *
        clear hB4 hbb4 hb04 hdr ho34 ho4
        refine Hd.take (i := 0) (v := ?tv90) hok rfl (by kernel_rfl) (fun _ _ _ h => h) (Or.inl ⟨by rfl, ?ty90⟩) (by assumption) ?tr90
        case ty90 => (intro w hSw; (try dsimp only at hSw); go_simp; (try with_reducible rfl))
        try simp only [List.getElem_toArray, List.getElem_cons_succ, List.getElem_cons_zero, Act.put, List.setIfInBounds_toArray, List.set_cons_zero, List.set_cons_succ]
        refine Hd.take (i := 1) (v := ?tv91) hok rfl (by kernel_rfl) (fun _ _ _ h => h) (Or.inl ⟨by rfl, ?ty91⟩) (by assumption) ?tr91
        case ty91 => (intro w hSw; (try dsimp only at hSw); go_simp; (try with_reducible rfl))
        try simp only [List.getElem_toArray, List.getElem_cons_succ, List.getElem_cons_zero, Act.put, List.setIfInBounds_toArray, List.set_cons_zero, List.set_cons_succ]
        refine Hd.one (i := 2) rfl (by kernel_rfl) (fun K hK => ?_)
        go_simp
        refine hsn.out.mono ?_
        rintro e w5 ⟨rfl, hb5⟩
        dsimp only
        have hB5 := hBd.trans (hb5.mono hBd.size)
        have hbb5 := hbbd.trans (hb5.mono hbbd.size)
        have hb05 := hb0d.trans (hb5.mono hb0d.size)
        have hSn := (hV.out _ hbb5).1
        refine hK _ _ hSn ?_
        clear hK K hb5 hBd hbbd hb0d hsn hS0 hx
        try simp only [List.getElem_toArray, List.getElem_cons_succ, List.getElem_cons_zero, Act.put, List.setIfInBounds_toArray, List.set_cons_zero, List.set_cons_succ]
        refine Hd.take (i := 3) (v := ?tv92) hok rfl (by kernel_rfl) (fun _ _ _ h => h) (Or.inl ⟨by rfl, ?ty92⟩) (by assumption) ?tr92
        case ty92 => (intro w hSw; (try dsimp only at hSw); go_simp; (try with_reducible rfl))
        try simp only [List.getElem_toArray, List.getElem_cons_succ, List.getElem_cons_zero, Act.put, List.setIfInBounds_toArray, List.set_cons_zero, List.set_cons_succ]
        refine Hd.take (i := 4) (v := ?tv93) hok rfl (by kernel_rfl) (fun _ _ _ h => h) (Or.inl ⟨by rfl, ?ty93⟩) (by assumption) ?tr93
        case ty93 => (intro w hSw; (try dsimp only at hSw); go_simp; (try with_reducible rfl))
        try simp only [List.getElem_toArray, List.getElem_cons_succ, List.getElem_cons_zero, Act.put, List.setIfInBounds_toArray, List.set_cons_zero, List.set_cons_succ]
        refine Hd.take (i := 5) (v := ?tv94) hok rfl (by kernel_rfl) (fun _ _ _ h => h) (Or.inl ⟨by rfl, ?ty94⟩) (by assumption) ?tr94
        case ty94 => (intro w hSw; (try dsimp only at hSw); go_simp; (try with_reducible rfl))
        try simp only [List.getElem_toArray, List.getElem_cons_succ, List.getElem_cons_zero, Act.put, List.setIfInBounds_toArray, List.set_cons_zero, List.set_cons_succ]
        refine Hd.take (i := 6) (v := ?tv95) hok rfl (by kernel_rfl) (fun _ _ _ h => h) (Or.inl ⟨by rfl, ?ty95⟩) (by assumption) ?tr95
        case ty95 => (intro w hSw; (try dsimp only at hSw); go_simp; (try with_reducible rfl))
        try simp only [List.getElem_toArray, List.getElem_cons_succ, List.getElem_cons_zero, Act.put, List.setIfInBounds_toArray, List.set_cons_zero, List.set_cons_succ]
        refine Hd.take (i := 7) (v := ?tv96) hok rfl (by kernel_rfl) (fun _ _ _ h => h) (Or.inl ⟨by rfl, ?ty96⟩) (by assumption) ?tr96
        case ty96 => (intro w hSw; (try dsimp only at hSw); go_simp; (try with_reducible rfl))
        try simp only [List.getElem_toArray, List.getElem_cons_succ, List.getElem_cons_zero, Act.put, List.setIfInBounds_toArray, List.set_cons_zero, List.set_cons_succ]
        refine Hd.take (i := 8) (v := ?tv97) hok rfl (by kernel_rfl) (fun _ _ _ h => h) (Or.inl ⟨by rfl, ?ty97⟩) (by assumption) ?tr97
        case ty97 => (intro w hSw; (try dsimp only at hSw); go_simp; (try with_reducible rfl))
        try simp only [List.getElem_toArray, List.getElem_cons_succ, List.getElem_cons_zero, Act.put, List.setIfInBounds_toArray, List.set_cons_zero, List.set_cons_succ]
        refine Hd.take (i := 9) (v := ?tv98) hok rfl (by kernel_rfl) (fun _ _ _ h => h) (Or.inl ⟨by rfl, ?ty98⟩) (by assumption) ?tr98
        case ty98 => (intro w hSw; (try dsimp only at hSw); go_simp; (try with_reducible rfl))
        try simp only [List.getElem_toArray, List.getElem_cons_succ, List.getElem_cons_zero, Act.put, List.setIfInBounds_toArray, List.set_cons_zero, List.set_cons_succ]
        refine Hd.take (i := 10) (v := ?tv99) hok rfl (by kernel_rfl) (fun _ _ _ h => h) (Or.inl ⟨by rfl, ?ty99⟩) (by assumption) ?tr99
        case ty99 => (intro w hSw; (try dsimp only at hSw); go_simp; (try with_reducible rfl))
        try simp only [List.getElem_toArray, List.getElem_cons_succ, List.getElem_cons_zero, Act.put, List.setIfInBounds_toArray, List.set_cons_zero, List.set_cons_succ]
        refine Hd.take (i := 11) (v := ?tv100) hok rfl (by kernel_rfl) (fun _ _ _ h => h) (Or.inl ⟨by rfl, ?ty100⟩) (by assumption) ?tr100
        case ty100 => (intro w hSw; (try dsimp only at hSw); go_simp; (try with_reducible rfl))
        try simp only [List.getElem_toArray, List.getElem_cons_succ, List.getElem_cons_zero, Act.put, List.setIfInBounds_toArray, List.set_cons_zero, List.set_cons_succ]
        refine Hd.take (i := 12) (v := ?tv101) hok rfl (by kernel_rfl) (fun _ _ _ h => h) (Or.inl ⟨by rfl, ?ty101⟩) (by assumption) ?tr101
        case ty101 => (intro w hSw; (try dsimp only at hSw); go_simp; (try with_reducible rfl))
        try simp only [List.getElem_toArray, List.getElem_cons_succ, List.getElem_cons_zero, Act.put, List.setIfInBounds_toArray, List.set_cons_zero, List.set_cons_succ]
        refine Hd.take (i := 13) (v := ?tv102) hok rfl (by kernel_rfl) (fun _ _ _ h => h) (Or.inl ⟨by rfl, ?ty102⟩) (by assumption) ?tr102
        case ty102 => (intro w hSw; (try dsimp only at hSw); go_simp; (try with_reducible rfl))
        try simp only [List.getElem_toArray, List.getElem_cons_succ, List.getElem_cons_zero, Act.put, List.setIfInBounds_toArray, List.set_cons_zero, List.set_cons_succ]
        refine Hd.take (i := 15) (v := ?tv103) hok rfl (by kernel_rfl) (fun _ _ _ h => h) (Or.inl ⟨by rfl, ?ty103⟩) (by assumption) ?tr103
        case ty103 => (intro w hSw; (try dsimp only at hSw); go_simp; (try with_reducible rfl))
        try simp only [List.getElem_toArray, List.getElem_cons_succ, List.getElem_cons_zero, Act.put, List.setIfInBounds_toArray, List.set_cons_zero, List.set_cons_succ]
        refine Hd.take (i := 16) (v := ?tv104) hok rfl (by kernel_rfl) (fun _ _ _ h => h) (Or.inl ⟨by rfl, ?ty104⟩) (by assumption) ?tr104
        case ty104 => (intro w hSw; (try dsimp only at hSw); go_simp; (try with_reducible rfl))
        try simp only [List.getElem_toArray, List.getElem_cons_succ, List.getElem_cons_zero, Act.put, List.setIfInBounds_toArray, List.set_cons_zero, List.set_cons_succ]
        refine Hd.take (i := 17) (v := ?tv105) hok rfl (by kernel_rfl) (fun _ _ _ h => h) (Or.inl ⟨by rfl, ?ty105⟩) (by assumption) ?tr105
        case ty105 => (intro w hSw; (try dsimp only at hSw); go_simp; (try with_reducible rfl))
        try simp only [List.getElem_toArray, List.getElem_cons_succ, List.getElem_cons_zero, Act.put, List.setIfInBounds_toArray, List.set_cons_zero, List.set_cons_succ]
        refine Hd.take (i := 18) (v := ?tv106) hok rfl (by kernel_rfl) (fun _ _ _ h => h) (Or.inl ⟨by rfl, ?ty106⟩) (by assumption) ?tr106
        case ty106 => (intro w hSw; (try dsimp only at hSw); go_simp; (try with_reducible rfl))
        try simp only [List.getElem_toArray, List.getElem_cons_succ, List.getElem_cons_zero, Act.put, List.setIfInBounds_toArray, List.set_cons_zero, List.set_cons_succ]
        clear hSn hneB
        refine Hd.one (i := 14) rfl (by kernel_rfl) (fun K hK => ?_)
        go_simp
        refine (setV_any s val l us (.slice av l.length cv) (.slice au us.length cu) byUid w5 (by omega) (by omega) hus.out (hk0.out _ hB5) (hu0.out _ hB5)).mono ?_
        rintro e w6 ⟨v6, ts, rfl, hri, ho6, hb6⟩
        dsimp only
        have hB6 := hB5.trans (hb6.out.mono hB5.size)
        have hbb6 := hbb5.trans (hb6.out.mono hbb5.size)
        have hb06 := hb05.trans (hb6.out.mono hb05.size)
        refine hK _ _ (hV.out _ hbb6).1 ?_
        clear hK K hb6 hB5 hbb5 hb05
        try simp only [List.getElem_toArray, List.getElem_cons_succ, List.getElem_cons_zero, Act.put, List.setIfInBounds_toArray, List.set_cons_zero, List.set_cons_succ]
        refine Hd.one (i := 19) rfl (by kernel_rfl) (fun K hK => ?_)
        go_simp
        refine (refSetV_any s val l us ts (.slice av l.length cv) (.slice au us.length cu) byUid w6 (by omega) (by omega) hus.out (hk0.out _ hB6) (hu0.out _ hB6) hri.out).mono ?_
        rintro e w7 ⟨v7, rfl, ho7, hb7⟩
        dsimp only
        have hB7 := hB6.trans (hb7.out.mono hB6.size)
        have hbb7 := hbb6.trans (hb7.out.mono hbb6.size)
        have hb07 := hb06.trans (hb7.out.mono hb06.size)
        refine hK _ _ (hV.out _ hbb7).1 ?_
        clear hK K hB6 hbb6 hb06
        try simp only [List.getElem_toArray, List.getElem_cons_succ, List.getElem_cons_zero, Act.put, List.setIfInBounds_toArray, List.set_cons_zero, List.set_cons_succ]
        have hnl2 : (normF ts).length ≤ 9223372036854775807 := by
          have h1 := normF_len ts []
          have h2 : ts.length ≤ (picksN l us byUid).length := nodup_len ts _ hri.out.1.1 (fun x hx => ((hri.out.2 x).1 hx).2)
          have h3 := picksN_len l byUid us
          simp only [List.length_nil, Nat.zero_add] at h1
          show (ts.foldl normStep []).length ≤ _
          omega
        have hcs := same_any v6 v7 (normF ts) (normF ts) w7 (ho6.out.ranges.on hb7.out) ho7.out.ranges hnl2
        rw [decide_eq_true rfl] at hcs
        refine Hd.one (i := 20) rfl (by kernel_rfl) (fun K hK => ?_)
        go_simp
        refine hcs.mono ?_
        rintro e w8 ⟨rfl, hb8⟩
        dsimp only
        have hbb8 := hbb7.trans (hb8.mono hbb7.size)
        have hb08 := Lib.hid (hb07.trans (hb8.mono hb07.size))
        have hSn := (hV.out _ hbb8).1
        refine hK _ _ hSn ?_
        clear hK K hB7 hbb7 hb07 hb8 hb7 hcs hnl2 ho6 ho7 hri
        try simp only [List.getElem_toArray, List.getElem_cons_succ, List.getElem_cons_zero, Act.put, List.setIfInBounds_toArray, List.set_cons_zero, List.set_cons_succ]
        refine Hd.take (i := 21) (v := ?tv107) hok rfl (by kernel_rfl) (fun _ _ _ h => h) (Or.inl ⟨by rfl, ?ty107⟩) (by assumption) ?tr107
        case ty107 => (intro w hSw; (try dsimp only at hSw); go_simp; (try with_reducible rfl))
        try simp only [List.getElem_toArray, List.getElem_cons_succ, List.getElem_cons_zero, Act.put, List.setIfInBounds_toArray, List.set_cons_zero, List.set_cons_succ]
        refine Hd.done (by kernel_rfl) ?_
        simp only [List.drop_succ_cons, List.drop_zero]
        clear hSn hok hbb8 hns hBO hnl hby
        go_wp2_with fail
        go_roundw
        case rel => exact ⟨q + 1, by go_num, by omega, hb08⟩
        case measure => simp [intOf] <;> omega
      · obtain rfl : q = 2 := by omega
        have hbE := Lib.hid (hB11.out.trans (hb.out.mono hB11.out.size))
        go_wp2_with fail
        go_ret
        exact ⟨rfl, by first | exact hbE.out | (rw [← hVB]; exact hbE.out)⟩
end Go.Proofs.Ytcnebfmlelcliaa
namespace Go.Proofs.Ytcnebfmlelcliaa
set_option linter.unusedSimpArgs false
open Go.RowKit

/-- what a closure says of the elements of a row, wherever the row's memory stands -/
def SaysZ {α : Type} (R : RT α) (l : List α) (p : α → Bool) (L : List Th) (W0 : World) (f : FuncId) (caps : Array Value) (v : Value) : Prop :=
  ∀ x ∈ l, ∀ (W2 : World) (l2 : List α), Zoo W0 W2 (R.row v l2 :: L) → Calls Try.prog f (#[.agg (R.enc x).toArray] ++ caps) W2 fun e w' => e = .returned (.bool (p x)) ∧ Hid (Below W2.heap.size W2 w')
end Go.Proofs.Ytcnebfmlelcliaa
namespace Go.Proofs.Ytcnebfmlelcliaa
open Go.RowKit

set_option maxHeartbeats 2000000 in
/-- Has tells whether a set holds a number -/
theorem setHas_any (rs : List (Nat × Nat)) (v : Value) (most n : Nat) (w : World) (hl : rs.length ≤ 9223372036854775807) (hk : RangesIn w w.heap.size v rs) :
    Calls Try.prog 31 #[v, .int .u64 most, .int .u64 n] w fun e w' => e = .returned (.bool (hasL rs most n)) ∧ Below w.heap.size w w' := by
  have hc : Hid (∀ (M N C : Nat) (W : World), HasMem W M N C most n → RangesIn W W.heap.size v rs → Calls Try.prog 29 #[v, .func (.func 46) #[] #[.pointer (some ⟨C, 0, none⟩), .pointer (some ⟨N, 0, none⟩)]] W fun e w' => e = .returned (.bool (hasL rs most n)) ∧ Hid (Below W.heap.size W w')) := Lib.hid (fun M N C W hM hk => by
    have hi := Lib.hid (hasIdx_any rs v M N C most n W hl hM hk)
    obtain ⟨ao, cap, rfl, _⟩ := hk
    clear hM
    go_enter Try.func29, Try.ntmps29
    go_wp2_with fail
    refine hi.out.mono ?_
    rintro e w1 ⟨r, rfl, hr, hb⟩
    go_wp2_with fail
    go_ret
    exact ⟨by rw [← hr.out]; rfl, hb⟩)
  have hk0 := Lib.hid hk
  obtain ⟨ao, cap, rfl, _⟩ := hk
  obtain ⟨W1, hW1⟩ : ∃ W1, W1 = w.alloc (.cells #[.int .u64 most] 22) := ⟨_, rfl⟩
  obtain ⟨W2, hW2⟩ : ∃ W2, W2 = W1.alloc (.cells #[.int .u64 n] 22) := ⟨_, rfl⟩
  obtain ⟨W3, hW3⟩ : ∃ W3, W3 = W2.alloc (.cells #[.func (.func 45) #[] #[.pointer (some ⟨w.heap.size, 0, none⟩)]] 68) := ⟨_, rfl⟩
  have s1 : W1.heap.size = w.heap.size + 1 := by rw [hW1]; simp
  have s2 : W2.heap.size = w.heap.size + 1 + 1 := by rw [hW2]; simp [s1]
  have m1 : Boxed W1 w.heap.size 22 (.int .u64 most) := by rw [hW1]; exact cells_new w _ _
  have m2 : Boxed W2 (w.heap.size + 1) 22 (.int .u64 n) := by rw [hW2, ← s1]; exact cells_new W1 _ _
  have m3 : Boxed W3 (w.heap.size + 1 + 1) 68 (.func (.func 45) #[] #[.pointer (some ⟨w.heap.size, 0, none⟩)]) := by rw [hW3, ← s2]; exact cells_new W2 _ _
  have b1 : Below w.heap.size w W1 := by rw [hW1]; exact (Below.refl _ w).alloc (Nat.le_refl _) _
  have b2 : Below W1.heap.size W1 W2 := by rw [hW2]; exact (Below.refl _ W1).alloc (Nat.le_refl _) _
  have b3 : Below W2.heap.size W2 W3 := by rw [hW3]; exact (Below.refl _ W2).alloc (Nat.le_refl _) _
  have bw : Below w.heap.size w W3 := (b1.trans (b2.mono b1.size)).trans (b3.mono (Nat.le_trans b1.size b2.size))
  have hM3 : HasMem W3 w.heap.size (w.heap.size + 1) (w.heap.size + 1 + 1) most n := ⟨boxed_below (boxed_below m1 b2) b3, boxed_below m2 b3, m3⟩
  have hk3 : RangesIn W3 W3.heap.size (.slice ao rs.length cap) rs := by
    obtain ⟨ao', cap', hv, h | ⟨b, o, ha, hlt, hle, hc⟩⟩ := hk0.out.later bw
    · exact ⟨ao', cap', hv, .inl h⟩
    · exact ⟨ao', cap', hv, .inr ⟨b, o, ha, Nat.lt_of_lt_of_le hlt bw.size, hle, hc⟩⟩
  have hcall := hc.out _ _ _ W3 hM3 hk3
  rw [hW3, hW2, hW1] at hcall bw
  replace hcall := Lib.hid hcall
  replace bw := Lib.hid bw
  clear hc hk0 hM3 hk3 m1 m2 m3 b1 b2 b3 s1 s2 hW3 hW2 hW1
  go_enter Try.func31, Try.ntmps31
  go_wp2_with fail
  refine hcall.out.mono ?_
  rintro e w1 ⟨rfl, hb⟩
  have hb9 := Lib.hid (bw.out.trans (hb.out.mono bw.out.size))
  clear hb bw hcall
  go_wp2_with fail
  go_ret
  exact ⟨rfl, hb9.out⟩
set_option maxRecDepth 100000 in
set_option maxHeartbeats 8000000 in
theorem refSetHas_any (rs : List Rng) (v : Value) (most n : Nat) (w : World) (hl : rs.length ≤ 9223372036854775807) (hk : RangesIn w w.heap.size v rs) :
    Calls Try.prog 32 #[v, .int .u64 most, .int .u64 n] w fun e w' => e = .returned (.bool (hasL rs most n)) ∧ Below w.heap.size w w' := by
  have hk0 := Lib.hid hk
  obtain ⟨ao, cap, rfl, _⟩ := hk
  have hr := Lib.hid (inAny_eq rs most n)
  go_enter Try.func32, Try.ntmps32
  go_wp2_with fail
  go_loopw [7] (fun v7 wr => ∃ q : Nat, v7 = .int .i64 q ∧ q ≤ rs.length ∧ Hid ((rs.take q).any (inOne most n) = false) ∧ Hid (Below w.heap.size w wr)) (fun v7 _ => rs.length - (intOf v7).toNat)
  case atStart => exact ⟨0, rfl, Nat.zero_le _, Lib.hid rfl, Lib.hid (Below.refl _ _)⟩
  case round =>
    obtain ⟨q, rfl, hq, hno, hb⟩ := hrel
    by_cases hlt : q < rs.length
    · obtain ⟨ao', cap', hv, hk | ⟨b, o, hao, hbB, hcap, hcells⟩⟩ := hk0.out.later hb.out
      · rw [hk] at hlt; simp at hlt
      · cases hv
        subst hao
        have hc := hcells q hlt
        have hstep : (rs.take (q + 1)).any (inOne most n) = inOne most n rs[q] := by rw [List.take_succ_eq_append_getElem hlt, List.any_append, hno.out]; simp
        have hyes : inOne most n rs[q] = true → hasL rs most n = true := fun h => by rw [← hr.out]; exact List.any_eq_true.2 ⟨_, List.getElem_mem hlt, h⟩
        generalize rs[q] = k at hc hstep hyes
        obtain ⟨f, t⟩ := k
        obtain ⟨c0, c1⟩ := hc
        dsimp only at c0 c1
        clear hcells
        obtain ⟨x, hx⟩ : ∃ x, x = if f = 0 then most else f := ⟨_, rfl⟩
        obtain ⟨y, hy⟩ : ∃ y, y = if t = 0 then most else t := ⟨_, rfl⟩
        have hin := inOne_at most n f t x y hx hy
        have hbW := Lib.hid (fun m => below_drewN hb.out m)
        have hi0 : (0 : Int) ≤ (q : Int) := by omega
        have hi1 : (q : Int) < (rs.length : Int) := by omega
        have key : (inOne most n (f, t) = true ∧ (decide (x ≤ n) = true ∧ decide (n ≤ y) = true)) ∨ (inOne most n (f, t) = true ∧ (decide (x ≤ n) = true ∧ decide (n ≤ y) = false ∧ decide (y ≤ n) = true ∧ decide (n ≤ x) = true)) ∨
            (inOne most n (f, t) = false ∧ (decide (x ≤ n) = true ∧ decide (n ≤ y) = false ∧ decide (y ≤ n) = true ∧ decide (n ≤ x) = false)) ∨ (inOne most n (f, t) = true ∧ (decide (x ≤ n) = false ∧ decide (y ≤ n) = true ∧ decide (n ≤ x) = true)) ∨
            (inOne most n (f, t) = false ∧ (decide (x ≤ n) = false ∧ decide (y ≤ n) = false)) := by
          rw [hin]
          by_cases h1 : x ≤ n <;> by_cases h2 : n ≤ y <;> by_cases h3 : y ≤ n <;> by_cases h4 : n ≤ x <;> simp [h1, h2, h3, h4] <;> omega
        clear hin
        rcases key with ⟨hI, t1, t2⟩ | ⟨hI, t1, t2, t3, t4⟩ | ⟨hI, t1, t2, t3, t4⟩ | ⟨hI, t1, t3, t4⟩ | ⟨hI, t1, t3⟩
        all_goals (
          rw [hI] at hstep
          replace hstep := Lib.hid hstep
          first
          | replace hyes := Lib.hid (hyes hI)
          | clear hyes
          clear hI
          by_cases hf : f = 0 <;> by_cases ht : t = 0
          all_goals (
            first | rw [if_pos hf] at hx | rw [if_neg hf] at hx
            first | rw [if_pos ht] at hy | rw [if_neg ht] at hy
            subst x
            subst y
            have qf : ((f : Int) == 0) = decide (f = 0) := by
              by_cases h : f = 0
              · rw [decide_eq_true h]; exact beq_iff_eq.2 (by omega)
              · rw [decide_eq_false h]; exact beq_eq_false_iff_ne.2 (by omega)
            have qt : ((t : Int) == 0) = decide (t = 0) := by
              by_cases h : t = 0
              · rw [decide_eq_true h]; exact beq_iff_eq.2 (by omega)
              · rw [decide_eq_false h]; exact beq_eq_false_iff_ne.2 (by omega)
            first | rw [decide_eq_true hf] at qf | rw [decide_eq_false hf] at qf
            first | rw [decide_eq_true ht] at qt | rw [decide_eq_false ht] at qt
            replace hf := Lib.hid hf
            replace ht := Lib.hid ht
            go_wp2_with fail
            go_quiet (fail)
            go_wp2_with fail
            first
            | (go_ret
               exact ⟨by rw [hyes.out]; rfl, hbW.out _⟩)
            | (go_roundw
               case rel => exact ⟨q + 1, by go_num, by omega, hstep, Lib.hid (hbW.out _)⟩
               case measure => simp [intOf] <;> omega)
            | (exfalso
               rw [t1] at t3
               cases t3)))
    · obtain rfl : q = rs.length := by omega
      rw [List.take_length] at hno
      go_wp2_with fail
      go_ret
      exact ⟨by rw [← hr.out, hno.out]; rfl, hb.out⟩
end Go.Proofs.Ytcnebfmlelcliaa
namespace Go.Proofs.Ytcnebfmlelcliaa
set_option linter.unusedSimpArgs false
open Go.RowKit
attribute [local go_sem ↓] Go.wp_at_zero Go.wp_at_succ

structure Rq where
  op : Int
  session : Nat
  number : Nat
  node : Int
  life : Nat
  try_ : Nat
  box : ByteArray
  to_ : ByteArray
  validity : Nat
  uids : List (Nat × Nat)
  flags : List (List UInt8)
  how : Int
  has : Bool
  since : Nat
  hash : ByteArray
  size : Nat
  sweeps : Nat
structure Oc where
  code : Int
  session : Nat
  validity : Nat
  uids : List Nat
  mods : List Nat
def oc0 : Oc := ⟨0, 0, 0, [], []⟩
def u64T : RT Nat where
  enc := fun n => [.int .u64 n]
  K := 1
  t := 22
  ts := 30
  z := .int .u64 0
  bytes := 8
  len := fun _ => rfl
  one := fun x u hu => by simp at hu; subst hu; rfl
  pos := by decide
  und := Try.underlying30
  info := by kernel_rfl
  zs := rfl
  bb := by decide
/-- where a request's slices lie -/
structure RqV where
  au : Option Addr
  cu : Nat
  af : Option Addr
  cf : Nat
def rqCells (q : Rq) (y : RqV) : List Value := [.int .i64 q.op, .int .u64 q.session, .int .u64 q.number, .int .i64 q.node, .int .u64 q.life, .int .u64 q.try_, .string q.box, .string q.to_, .int .u64 q.validity, .slice y.au q.uids.length y.cu, .slice y.af q.flags.length y.cf, .int .i64 q.how, .bool q.has, .int .u64 q.since, .string q.hash, .int .u64 q.size, .int .u64 q.sweeps]
def RqIn (W : World) (q : Rq) (y : RqV) : Prop := RangesIn W W.heap.size (.slice y.au q.uids.length y.cu) q.uids ∧ FlIn W (.slice y.af q.flags.length y.cf) q.flags
theorem RqIn.below {W W' : World} {q : Rq} {y : RqV} (h : RqIn W q y) (hb : Below W.heap.size W W') : RqIn W' q y := ⟨h.1.on hb, Rd.below h.2 hb⟩
/-- where the parts of a work lie -/
structure WkV where
  ab : Option Addr
  cb : Nat
  ah : Option Addr
  ch : Nat
  as_ : Option Addr
  cs : Nat
  aU : Option Addr
  cU : Nat
  aM : Option Addr
  cM : Nat
  bs : List BxV
  S : List (Value × List (List UInt8))
def workCells (k : WkV) (m : Ml) (q : Rq) (y : RqV) (o : Oc) : List Value :=
  [.slice k.ab k.bs.length k.cb, .int .u64 m.nv, .slice k.ah m.homes.length k.ch, .slice k.as_ m.seats.length k.cs, .int .u64 m.ns, .int .u64 m.sweeps,
   .int .i64 q.op, .int .u64 q.session, .int .u64 q.number, .int .i64 q.node, .int .u64 q.life, .int .u64 q.try_, .string q.box, .string q.to_, .int .u64 q.validity, .slice y.au q.uids.length y.cu, .slice y.af q.flags.length y.cf, .int .i64 q.how, .bool q.has, .int .u64 q.since, .string q.hash, .int .u64 q.size, .int .u64 q.sweeps,
   .int .i64 o.code, .int .u64 o.session, .int .u64 o.validity, .slice k.aU o.uids.length k.cU, .slice k.aM o.mods.length k.cM]
def WkOk (k : WkV) (m : Ml) : Prop := k.bs.map BxV.b = m.boxes ∧ HasB k.S k.bs
section
variable {W0 W : World} {L : List Th}
theorem front_perm {α : Type} : ∀ (L : List α) (i : Nat) (hi : i < L.length), L.Perm (L[i] :: L.eraseIdx i)
  | _ :: _, 0, _ => List.Perm.refl _
  | x :: L, i + 1, hi => ((front_perm L i (by simpa using hi)).cons x).trans (List.Perm.swap _ _ _)
theorem Zoo.front {a : Th} (h : Zoo W0 W L) (i : Nat) (hi : L[i]? = some a) : Zoo W0 W (a :: L.eraseIdx i) := by
  obtain ⟨hl, rfl⟩ := List.getElem?_eq_some_iff.1 hi
  exact h.perm (front_perm L i hl)
theorem Zoo.back {b : Th} (i : Nat) (hi : i < L.length) (h : Zoo W0 W (b :: L.eraseIdx i)) : Zoo W0 W (L.set i b) := by
  refine h.perm ?_
  have := front_perm (L.set i b) i (by rw [List.length_set]; exact hi)
  rw [List.getElem_set_self, List.eraseIdx_set_eq] at this
  exact this.symm
end
def lookM (m : Ml) (_ : Rq) (o : Oc) : Int × Ml × Oc := (0, m, o)
def sweepM (m : Ml) (_ : Rq) (o : Oc) : Int × Ml × Oc := if m.sweeps = 9223372036854775807 then (13, m, o) else (0, { m with sweeps := m.sweeps + 1 }, o)
def endM (m : Ml) (q : Rq) (o : Oc) : Int × Ml × Oc := (0, { m with seats := m.seats.filter (fun x => !(x.session == q.session)) }, o)
end Go.Proofs.Ytcnebfmlelcliaa
namespace Go.Proofs.Ytcnebfmlelcliaa
set_option linter.unusedSimpArgs false
open Go.RowKit
attribute [local go_sem ↓] Go.wp_at_zero Go.wp_at_succ

theorem rq_one (q : Rq) (y : RqV) : ∀ v ∈ rqCells q y, v.oneCell' = true := fun v hv => by
  simp only [rqCells, List.mem_cons, List.not_mem_nil, or_false] at hv
  rcases hv with rfl | rfl | rfl | rfl | rfl | rfl | rfl | rfl | rfl | rfl | rfl | rfl | rfl | rfl | rfl | rfl | rfl <;> rfl
/-- a request, and where its slices lie -/
abbrev RqP := Rq × RqV
def rqT : RT RqP where
  enc := fun p => rqCells p.1 p.2
  K := 17
  t := 77
  ts := 74
  z := .agg #[.int .i64 0, .int .u64 0, .int .u64 0, .int .i64 0, .int .u64 0, .int .u64 0, .string ⟨#[]⟩, .string ⟨#[]⟩, .int .u64 0, .slice none 0 0, .slice none 0 0, .int .i64 0, .bool false, .int .u64 0, .string ⟨#[]⟩, .int .u64 0, .int .u64 0]
  bytes := 192
  len := fun _ => rfl
  one := fun p => rq_one p.1 p.2
  pos := by decide
  und := Try.underlying74
  info := by kernel_rfl
  zs := rfl
  bb := by decide
def RqsIn (W : World) (v : Value) (l : List RqP) : Prop := Rd W v l.length (rqT.cells l) ∧ ∀ p ∈ l, RqIn W p.1 p.2
theorem RqsIn.below {W W' : World} {v : Value} {l : List RqP} (h : RqsIn W v l) (hb : Below W.heap.size W W') : RqsIn W' v l := ⟨Rd.below h.1 hb, fun p hp => (h.2 p hp).below hb⟩
def letN (x : Lt) : Nat := textsN x.flags + fewN x.hash.size / 32
def boxN (b : Bx) : Nat := b.letters.length + fewN b.name.size + (b.letters.map letN).sum
def reqN (q : Rq) : Nat := 4 + q.uids.length + textsN q.flags + fewN q.box.size / 16 + fewN q.to_.size / 16 + fewN q.hash.size / 32
def lightB (m : Ml) (l : List Rq) : Bool :=
  decide (m.boxes.length ≤ 50) && decide (m.seats.length ≤ 100) && decide (m.homes.length ≤ 50) && decide (l.length ≤ 200) && (m.boxes.all fun b => decide (b.letters.length ≤ 500)) && (l.all fun q => decide (q.uids.length ≤ 1000))
    && decide (m.boxes.length + m.seats.length + m.homes.length + (m.boxes.map boxN).sum + (l.map reqN).sum ≤ 5000)
theorem letN_le (x : Lt) : letN x ≤ 13140168 := by unfold letN; have := textsN_le x.flags; have := fewN_le x.hash.size; omega
theorem boxN_le (b : Bx) (h : b.letters.length ≤ 500) : boxN b ≤ 6571133076 := by
  unfold boxN
  have h1 := sum_le letN 13140168 letN_le b.letters
  have h2 := fewN_le b.name.size
  have h3 : b.letters.length * 13140168 ≤ 500 * 13140168 := Nat.mul_le_mul_right _ h
  omega
theorem reqN_le (q : Rq) (h : q.uids.length ≤ 1000) : reqN q ≤ 15238324 := by
  unfold reqN
  have := textsN_le q.flags
  have := fewN_le q.box.size
  have := fewN_le q.to_.size
  have := fewN_le q.hash.size
  omega
theorem light_no {m : Ml} {l : List Rq} (h : m.boxes.length ≤ 50 → m.seats.length ≤ 100 → m.homes.length ≤ 50 → l.length ≤ 200 → (∀ b ∈ m.boxes, b.letters.length ≤ 500) → (∀ q ∈ l, q.uids.length ≤ 1000) → ¬ (m.boxes.length + m.seats.length + m.homes.length + (m.boxes.map boxN).sum + (l.map reqN).sum ≤ 5000)) : lightB m l = false := by
  cases hb : lightB m l with
  | false => rfl
  | true =>
    unfold lightB at hb
    simp only [Bool.and_eq_true, decide_eq_true_eq, List.all_eq_true] at hb
    exact absurd hb.2 (h hb.1.1.1.1.1.1 hb.1.1.1.1.1.2 hb.1.1.1.1.2 hb.1.1.1.2 hb.1.1.2 hb.1.2)
theorem light_yes {m : Ml} {l : List Rq} (h1 : m.boxes.length ≤ 50) (h2 : m.seats.length ≤ 100) (h3 : m.homes.length ≤ 50) (h4 : l.length ≤ 200) (h5 : ∀ b ∈ m.boxes, b.letters.length ≤ 500) (h6 : ∀ q ∈ l, q.uids.length ≤ 1000) : lightB m l = decide (m.boxes.length + m.seats.length + m.homes.length + (m.boxes.map boxN).sum + (l.map reqN).sum ≤ 5000) := by
  unfold lightB
  rw [decide_eq_true h1, decide_eq_true h2, decide_eq_true h3, decide_eq_true h4, List.all_eq_true.2 (fun b hb => decide_eq_true (h5 b hb)), List.all_eq_true.2 (fun b hb => decide_eq_true (h6 b hb))]
  rfl
end Go.Proofs.Ytcnebfmlelcliaa
