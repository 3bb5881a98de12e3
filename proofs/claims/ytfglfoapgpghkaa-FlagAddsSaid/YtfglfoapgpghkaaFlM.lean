/- Change, of the program and of the document. -/
import Derived.Test.YtfglfoapgpghkaaFlL
import Derived.Laws.EntriesVeiled
namespace Go.Proofs.Ytfglfoapgpghkaa
open Go.RowKit

/-- what is put together ahead of the set -/
def chIn (l : List (List UInt8)) (how : Int) (by_ : List (List UInt8)) : List (List UInt8) := (if how = 0 then [] else if how = 1 then l else l.filter fun x => !decide (x ∈ by_)) ++ (if how = 2 then [] else by_)
def chOk (l : List (List UInt8)) (how : Int) (by_ : List (List UInt8)) : Bool := rightB l && (rightB by_ && (decide (0 ≤ how) && decide (how < 3)))
def chCode (l : List (List UInt8)) (how : Int) (by_ : List (List UInt8)) : Nat := if chOk l how by_ then (if 16 < (fset (chIn l how by_)).length then 7 else 0) else 1
def chSet (l : List (List UInt8)) (how : Int) (by_ : List (List UInt8)) : List (List UInt8) := if chOk l how by_ then (if 16 < (fset (chIn l how by_)).length then [] else fset (chIn l how by_)) else []
def ChRet (l : List (List UInt8)) (how : Int) (by_ : List (List UInt8)) (w : World) (e : Ending) (w' : World) : Prop := ∃ v', e = .returned (.tuple #[v', .int .i64 (chCode l how by_ : Int)]) ∧ Hid (Rd w' v' (chSet l how by_).length ((chSet l how by_).map encStr)) ∧ Hid (Below w.heap.size w w')
theorem ch_none {l by_ : List (List UInt8)} {how : Int} {w w' : World} (h : chOk l how by_ = false) (hb : Below w.heap.size w w') : ChRet l how by_ w (.returned (.tuple #[.slice none 0 0, .int .i64 1])) w' :=
  ⟨_, by rw [chCode, h]; rfl, Lib.hid (by rw [chSet, h]; exact ⟨none, 0, rfl, .inl rfl⟩), Lib.hid hb⟩
theorem ch_full {l by_ : List (List UInt8)} {how : Int} {w w' : World} (h : chOk l how by_ = true) (h2 : 16 < (fset (chIn l how by_)).length) (hb : Below w.heap.size w w') : ChRet l how by_ w (.returned (.tuple #[.slice none 0 0, .int .i64 7])) w' :=
  ⟨_, by rw [chCode, h, if_pos rfl, if_pos h2]; rfl, Lib.hid (by rw [chSet, h, if_pos rfl, if_pos h2]; exact ⟨none, 0, rfl, .inl rfl⟩), Lib.hid hb⟩
theorem ch_ok {l by_ : List (List UInt8)} {how : Int} {w w' : World} {v : Value} (h : chOk l how by_ = true) (h2 : ¬ 16 < (fset (chIn l how by_)).length) (hr : Rd w' v (fset (chIn l how by_)).length ((fset (chIn l how by_)).map encStr)) (hb : Below w.heap.size w w') : ChRet l how by_ w (.returned (.tuple #[v, .int .i64 0])) w' :=
  ⟨v, by rw [chCode, h, if_pos rfl, if_neg h2]; rfl, Lib.hid (by rw [chSet, h, if_pos rfl, if_neg h2]; exact hr), Lib.hid hb⟩
theorem right_16 {l : List (List UInt8)} (h : rightB l = true) : l.length ≤ 16 := ((rightB_iff l).1 h).2.1
theorem right_set {l : List (List UInt8)} (h : rightB l = true) : fset l = l := setS_of_sorted flt_sto l ((rightB_iff l).1 h).2.2
theorem right_filter {l : List (List UInt8)} (h : rightB l = true) (p : List UInt8 → Bool) : fset (l.filter p) = l.filter p := setS_of_sorted flt_sto _ (((rightB_iff l).1 h).2.2.sublist List.filter_sublist)
theorem ch_in0 (l by_ : List (List UInt8)) : chIn l 0 by_ = by_ := rfl
theorem ch_in1 (l by_ : List (List UInt8)) : chIn l 1 by_ = l ++ by_ := rfl
theorem ch_in2 (l by_ : List (List UInt8)) : chIn l 2 by_ = l.filter (fun x => !decide (x ∈ by_)) := by
  rw [chIn]; simp
theorem ch_okk {l by_ : List (List UInt8)} {how : Int} (h1 : rightB l = true) (h2 : rightB by_ = true) (h3 : 0 ≤ how) (h4 : how < 3) : chOk l how by_ = true := by
  rw [chOk, h1, h2, decide_eq_true h3, decide_eq_true h4]; rfl
set_option maxRecDepth 100000 in
set_option maxHeartbeats 4000000 in
theorem change_any (v u : Value) (l by_ : List (List UInt8)) (how : Int) (w : World) (hr : Rd w v l.length (l.map encStr)) (hu : Rd w u by_.length (by_.map encStr)) (hl : (l.length + 2) * 16 ≤ 140737488355328) (hul : (by_.length + 2) * 16 ≤ 140737488355328) (hs : Sized l) (hus : Sized by_) :
    Calls Try.prog 19 #[v, .int .i64 how, u] w (ChRet l how by_ w) := by
  have hr0 := Lib.hid hr
  have hu0 := Lib.hid hu
  replace hs := Lib.hid hs
  replace hus := Lib.hid hus
  obtain ⟨ao, cap, rfl, -⟩ := hr
  obtain ⟨ao2, cap2, rfl, -⟩ := hu
  go_enter Try.func19, Try.ntmps19
  go_wp2_with fail
  have hc : ∀ W, Below (w.heap.size + 1) (w.alloc (.cells #[.func (.func 34) #[] #[], .func (.func 35) #[] #[], .func (.func 36) #[] #[]] 51)) W → W.cell? ⟨w.heap.size, 0, none⟩ = some (.func (.func 34) #[] #[]) ∧ W.cell? ⟨w.heap.size, 1, none⟩ = some (.func (.func 35) #[] #[]) ∧ W.cell? ⟨w.heap.size, 2, none⟩ = some (.func (.func 36) #[] #[]) := fun W hW => by
    refine ⟨?_, ?_, ?_⟩ <;> (rw [hW.cell (by simp)]; simp)
  have b0 : Below w.heap.size w (w.alloc (.cells #[.func (.func 34) #[] #[], .func (.func 35) #[] #[], .func (.func 36) #[] #[]] 51)) := (Lays.alloc _ _).below
  have hz0 : (w.alloc (.cells #[.func (.func 34) #[] #[], .func (.func 35) #[] #[], .func (.func 36) #[] #[]] 51)).heap.size = w.heap.size + 1 := by simp
  refine (right_any _ l _ (hr0.out.below b0) hl hs.out).mono ?_
  generalize w.alloc (.cells #[.func (.func 34) #[] #[], .func (.func 35) #[] #[], .func (.func 36) #[] #[]] 51) = w0 at hc b0 hz0 ⊢
  rintro e w1 ⟨rfl, b1⟩
  have hb1 : Hid (Below (w.heap.size + 1) w0 w1) := Lib.hid (b1.out.mono (by omega))
  have hb1' : Hid (Below w.heap.size w w1) := Lib.hid (b0.trans (b1.out.mono (by omega)))
  replace hc := Lib.hid hc
  clear b1
  cases hR : rightB l
  · have hno : Hid (chOk l how by_ = false) := Lib.hid (by rw [chOk, hR]; rfl)
    replace hR := Lib.hid hR
    go_wp2_with fail
    go_ret2
    exact ch_none hno.out hb1'.out
  · replace hR := Lib.hid hR
    go_wp2_with fail
    refine (right_any _ by_ w1 (hu0.out.below hb1'.out) hul hus.out).mono ?_
    rintro e w2 ⟨rfl, b2⟩
    have hb2 : Hid (Below (w.heap.size + 1) w0 w2) := Lib.hid (hb1.out.trans (b2.out.mono (by have := hb1.out.size; omega)))
    have hb2' : Hid (Below w.heap.size w w2) := Lib.hid (hb1'.out.trans (b2.out.mono hb1'.out.size))
    clear b2 hb1 hb1' b0 hz0
    cases hR2 : rightB by_
    · have hno : Hid (chOk l how by_ = false) := Lib.hid (by rw [chOk, hR2]; simp)
      replace hR2 := Lib.hid hR2
      go_wp2_with fail
      go_ret2
      exact ch_none hno.out hb2'.out
    · replace hR2 := Lib.hid hR2
      by_cases hlo : how < 0
      · have hno : Hid (chOk l how by_ = false) := Lib.hid (by rw [chOk, decide_eq_false (show ¬ 0 ≤ how by omega)]; simp)
        go_wp2_with fail
        go_ret2
        exact ch_none hno.out hb2'.out
      · by_cases hhi : 3 ≤ how
        · have hno : Hid (chOk l how by_ = false) := Lib.hid (by rw [chOk, decide_eq_false (show ¬ how < 3 by omega)]; simp)
          go_wp2_with fail
          go_ret2
          exact ch_none hno.out hb2'.out
        have hokk := Lib.hid (ch_okk hR.out hR2.out (show 0 ≤ how by omega) (show how < 3 by omega))
        have hl16 := right_16 hR.out
        have hu16 := right_16 hR2.out
        have hr2 := Lib.hid (hr0.out.below hb2'.out)
        have hu2 := Lib.hid (hu0.out.below hb2'.out)
        rcases (show how = 0 ∨ how = 1 ∨ how = 2 by omega) with rfl | rfl | rfl
        · have hcc := (hc.out w2 hb2.out).1
          go_wp2_with fail
          refine (becomes_any _ _ by_ w2 hu2.out (by omega)).mono ?_
          rintro e w3 ⟨v3, rfl, hr3, b3⟩
          have hb3 := Lib.hid (hb2'.out.trans (b3.out.mono hb2'.out.size))
          have hfl : (fset by_).length ≤ (by_).length := setS_len flt _
          have hin : Hid (chIn l 0 by_ = by_) := Lib.hid (rfl)
          obtain ⟨F, hF⟩ : ∃ F, Hid (F = fset by_) := ⟨_, Lib.hid rfl⟩
          have hr3' : Hid (Rd w3 v3 F.length (F.map encStr)) := Lib.hid (by rw [hF.out]; exact hr3.out)
          rw [← hF.out] at hfl
          have hFI : Hid (F = fset (chIn l 0 by_)) := Lib.hid (by rw [hF.out, hin.out])
          clear hr3 b3 hcc hin hF
          obtain ⟨a3, c3, rfl⟩ : ∃ a c, v3 = .slice a F.length c := by
            obtain ⟨a, c, h, _⟩ := hr3'.out; exact ⟨a, c, h⟩
          have hF40 : F.length ≤ 40 := by
            refine Nat.le_trans hfl ?_
            omega
          clear hfl
          by_cases h16 : 16 < F.length
          · go_wp2_with fail
            go_ret2
            exact ch_full hokk.out (by rw [← hFI.out]; exact h16) hb3.out
          · go_wp2_with fail
            go_ret2
            exact ch_ok hokk.out (by rw [← hFI.out]; exact h16) (by rw [← hFI.out]; exact hr3'.out) hb3.out
        · have hcc := (hc.out w2 hb2.out).2.1
          go_wp2_with fail
          refine (with_any _ _ l by_ w2 hr2.out hu2.out (by omega) (by omega)).mono ?_
          rintro e w3 ⟨v3, rfl, hr3, b3⟩
          have hb3 := Lib.hid (hb2'.out.trans (b3.out.mono hb2'.out.size))
          have hfl : (fset (l ++ by_)).length ≤ ((l ++ by_)).length := setS_len flt _
          have hin : Hid (chIn l 1 by_ = (l ++ by_)) := Lib.hid (rfl)
          obtain ⟨F, hF⟩ : ∃ F, Hid (F = fset (l ++ by_)) := ⟨_, Lib.hid rfl⟩
          have hr3' : Hid (Rd w3 v3 F.length (F.map encStr)) := Lib.hid (by rw [hF.out]; exact hr3.out)
          rw [← hF.out] at hfl
          have hFI : Hid (F = fset (chIn l 1 by_)) := Lib.hid (by rw [hF.out, hin.out])
          clear hr3 b3 hcc hin hF
          obtain ⟨a3, c3, rfl⟩ : ∃ a c, v3 = .slice a F.length c := by
            obtain ⟨a, c, h, _⟩ := hr3'.out; exact ⟨a, c, h⟩
          have hF40 : F.length ≤ 40 := by
            refine Nat.le_trans hfl ?_
            simp; omega
          clear hfl
          by_cases h16 : 16 < F.length
          · go_wp2_with fail
            go_ret2
            exact ch_full hokk.out (by rw [← hFI.out]; exact h16) hb3.out
          · go_wp2_with fail
            go_ret2
            exact ch_ok hokk.out (by rw [← hFI.out]; exact h16) (by rw [← hFI.out]; exact hr3'.out) hb3.out
        · have hcc := (hc.out w2 hb2.out).2.2
          go_wp2_with fail
          refine (without_any _ _ l by_ w2 hr2.out hu2.out (by omega) (by omega)).mono ?_
          rintro e w3 ⟨v3, rfl, hr3, b3⟩
          have hb3 := Lib.hid (hb2'.out.trans (b3.out.mono hb2'.out.size))
          have hfl : (fset (l.filter fun x => !decide (x ∈ by_))).length ≤ ((l.filter fun x => !decide (x ∈ by_))).length := setS_len flt _
          have hin : Hid (chIn l 2 by_ = (l.filter fun x => !decide (x ∈ by_))) := Lib.hid (ch_in2 l by_)
          obtain ⟨F, hF⟩ : ∃ F, Hid (F = fset (l.filter fun x => !decide (x ∈ by_))) := ⟨_, Lib.hid rfl⟩
          have hr3' : Hid (Rd w3 v3 F.length (F.map encStr)) := Lib.hid (by rw [hF.out, right_filter hR.out]; have h := hr3.out; rw [right_set hR.out] at h; exact h)
          rw [← hF.out] at hfl
          have hFI : Hid (F = fset (chIn l 2 by_)) := Lib.hid (by rw [hF.out, hin.out])
          clear hr3 b3 hcc hin hF
          obtain ⟨a3, c3, rfl⟩ : ∃ a c, v3 = .slice a F.length c := by
            obtain ⟨a, c, h, _⟩ := hr3'.out; exact ⟨a, c, h⟩
          have hF40 : F.length ≤ 40 := by
            refine Nat.le_trans hfl ?_
            exact Nat.le_trans (List.length_filter_le _ _) (by omega)
          clear hfl
          by_cases h16 : 16 < F.length
          · go_wp2_with fail
            go_ret2
            exact ch_full hokk.out (by rw [← hFI.out]; exact h16) hb3.out
          · go_wp2_with fail
            go_ret2
            exact ch_ok hokk.out (by rw [← hFI.out]; exact h16) (by rw [← hFI.out]; exact hr3'.out) hb3.out
end Go.Proofs.Ytfglfoapgpghkaa
