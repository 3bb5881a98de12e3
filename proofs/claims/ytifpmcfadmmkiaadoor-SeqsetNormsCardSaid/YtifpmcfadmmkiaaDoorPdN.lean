/- SeqsetNorms: walked. -/
import Derived.Test.YtifpmcfadmmkiaaDoorPdM
import Derived.Test.YtifpmcfadmmkiaaDoorSqW
namespace Go.Proofs.YtifpmcfadmmkiaaDoor
open Go.RowKit Go.ChangeShapes Go.WideShapes Go.ChangeAt

set_option maxRecDepth 100000 in
set_option maxHeartbeats 8000000 in
theorem norms_any (hal : AliveOk) (of : List Nat) (v : Value) (W : World) (hr : Rd W v of.length (of.map encU)) (hu : ∀ x ∈ of, x < 18446744073709551616) (hol : of.length * 8 ≤ 140737488355328) (hg : Gr W) :
    Calls Tryd.prog 4 #[v] W fun e w' => e = .returned (.bool true) ∧ Below W.heap.size W w' := by
  obtain ⟨ao, cap, hv⟩ : ∃ ao cap, v = .slice ao of.length cap := by obtain ⟨ao, cap, hv, _⟩ := hr; exact ⟨ao, cap, hv⟩
  subst hv
  by_cases h300 : 300 < of.length
  · have hd : decide ((300 : Int) < (of.length : Int)) = true := by simp; omega
    have hd2 : (300 : Int) < (of.length : Int) := by omega
    have ha1 := Lib.hid (hal W hg)
    clear hal
    go_enter Tryd.func4, Tryd.ntmps4
    go_wp2_with fail
    refine ha1.out.mono ?_
    rintro e w1 ⟨rfl, hb⟩
    replace hb := Lib.hid hb
    clear ha1 hg
    go_wp2_with fail
    go_ret
    exact ⟨rfl, hb.out⟩
  · have hd2 : (of.length : Int) ≤ 300 := by omega
    replace hal := Lib.hid hal
    replace hr := Lib.hid hr
    replace hu := Lib.hid hu
    replace hg := Lib.hid hg
    go_enter Tryd.func4, Tryd.ntmps4
    go_wp2_with (at_builtin; refine wpList_append_nums rfl (.tmp 8) (.tmp 9) rfl W.heap.size _ _ [] of rfl rfl (owns_emptyN W) (hr.out.below ((Below.refl _ _).alloc (Nat.le_refl _) _)) (by simp; omega) (by simp) ?_)
    intro v3 w4 hown4 hb4
    have hb5 : Hid (Below W.heap.size W w4) := Lib.hid (((Below.refl W.heap.size W).alloc (Nat.le_refl _) (.cells #[] 35)).trans hb4)
    have hall : Hid (Rd w4 v3 of.length (of.map encU)) := Lib.hid hown4.rd
    have hunder := Lib.hid hown4
    clear hb4 hown4
    have hc := Lib.hid (hal.out w4 (hg.out.later hb5.out))
    go_wp2_with fail
    refine hc.out.mono ?_
    rintro e w5 ⟨rfl, hb6⟩
    have hall5 := Lib.hid (hall.out.below hb6)
    have hB5 := Lib.hid (hb5.out.trans (hb6.mono hb5.out.size))
    clear hc hb6 hall hunder hb5
    have hc := Lib.hid (norm_any sort_all of _ w5 hall5.out (by omega) (by omega) hu.out)
    go_wp2_with fail
    refine hc.out.mono ?_
    rintro e w6 ⟨vn, ts, rfl, hri, hown, hb7⟩
    have hB6 := Lib.hid (hB5.out.trans (hb7.out.mono hB5.out.size))
    have hall6 := Lib.hid (hall5.out.below hb7.out)
    have hin := Lib.hid hri.out.ninv
    have hrl : (normF ts).length ≤ 1000000 := by
      have := normF_len ts []
      have h2 : ts.length ≤ of.length := nodup_len ts of hri.out.1.1 (fun x hx => ((hri.out.2 x).1 hx).2)
      simp only [List.length_nil, Nat.zero_add] at this
      show (ts.foldl normStep []).length ≤ _
      omega
    have hcr := Lib.hid (refNorm_any of ts (normF ts) _ w6 (hr.out.below hB6.out) (by omega) hri.out.2 hu.out hin.out hrl)
    have hrg := Lib.hid hown.out.ranges
    clear hc hb7 hB5 hall5 hown hin hri
    go_wp2_with fail
    refine hcr.out.mono ?_
    rintro e w7 ⟨vr, rfl, hownr, hb8⟩
    have hB7 := Lib.hid (hB6.out.trans (hb8.out.mono hB6.out.size))
    have hall7 := Lib.hid (hall6.out.below hb8.out)
    have hcs := same_any _ _ (normF ts) (normF ts) w7 (hrg.out.on hb8.out) hownr.out.ranges (by omega)
    rw [decide_eq_true rfl] at hcs
    replace hcs := Lib.hid hcs
    clear hcr hb8 hrg hownr hall6 hB6
    go_wp2_with fail
    refine hcs.out.mono ?_
    rintro e w8 ⟨rfl, hb9⟩
    have hB8 := Lib.hid (hB7.out.trans (hb9.mono hB7.out.size))
    have hcn := sameNums_any _ _ of of w8 (hall7.out.below hb9) (hr.out.below hB8.out) (by omega)
    rw [decide_eq_true rfl] at hcn
    replace hcn := Lib.hid hcn
    clear hcs hb9 hB7 hall7
    go_wp2_with fail
    refine hcn.out.mono ?_
    rintro e w9 ⟨rfl, hb10⟩
    have hB9 := Lib.hid (hB8.out.trans (hb10.mono hB8.out.size))
    clear hcn hb10
    go_wp2_with fail
    go_ret
    exact ⟨rfl, hB9.out⟩
theorem norms_card (v : Value) (w : World) (hr : ∃ l : List Nat, Rd w v l.length (l.map encU) ∧ (∀ x ∈ l, x < 18446744073709551616) ∧ l.length * 8 ≤ reachBytes) (hT : Tab w) (hE : Errs w) (hm : ∃ m, w.cell? ⟨0, 0, none⟩ = some (.int .i64 m)) :
    Calls Tryd.prog 4 #[v] w fun e w' => e = .returned (.bool true) ∧ Below w.heap.size w w' := by
  obtain ⟨l, g1, g2, g3⟩ := hr
  unfold reachBytes at g3
  exact norms_any alive_any l v w g1 g2 (by omega) ⟨hT, hE, hm⟩
end Go.Proofs.YtifpmcfadmmkiaaDoor
