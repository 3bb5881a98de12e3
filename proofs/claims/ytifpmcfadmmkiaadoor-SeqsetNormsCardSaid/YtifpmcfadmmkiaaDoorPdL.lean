/- The reference's Norm: walked. -/
import Derived.Test.YtifpmcfadmmkiaaDoorPdK
import Derived.Test.YtifpmcfadmmkiaaDoorSqH
namespace Go.Proofs.YtifpmcfadmmkiaaDoor
open Go.RowKit Go.ChangeShapes Go.WideShapes Go.ChangeAt

def lenV : Value → Nat
  | .slice _ n _ => n
  | _ => 0
def bs (of : List Nat) (last best y : Nat) : Nat :=
  if y = 1 ∧ last = 0 then 1 else if last < y ∧ y - 1 ∉ of ∧ (best = 0 ∨ y < best) then y else best
theorem bs_one {of : List Nat} {last best y : Nat} (h : y = 1 ∧ last = 0) : bs of last best y = 1 := if_pos h
theorem bs_set {of : List Nat} {last best y : Nat} (h : ¬ (y = 1 ∧ last = 0)) (h2 : last < y ∧ y - 1 ∉ of ∧ (best = 0 ∨ y < best)) : bs of last best y = y := by unfold bs; rw [if_neg h, if_pos h2]
theorem bs_keep {of : List Nat} {last best y : Nat} (h : ¬ (y = 1 ∧ last = 0)) (h2 : ¬ (last < y ∧ y - 1 ∉ of ∧ (best = 0 ∨ y < best))) : bs of last best y = best := by unfold bs; rw [if_neg h, if_neg h2]
def bestOf (of : List Nat) (last k : Nat) : Nat := (of.take k).foldl (bs of last) 0
theorem bestOf_step {of : List Nat} {last k : Nat} (h : k < of.length) : bestOf of last (k + 1) = bs of last (bestOf of last k) of[k] := by
  unfold bestOf
  rw [List.take_succ_eq_append_getElem h, List.foldl_append]; rfl
def Start (of : List Nat) (x : Nat) : Prop := x ∈ of ∧ 1 ≤ x ∧ (x = 1 ∨ x - 1 ∉ of)
structure BI (of seen : List Nat) (last best : Nat) : Prop where
  good : best = 0 ∨ (Start of best ∧ last < best)
  least : ∀ x ∈ seen, Start of x → last < x → best ≠ 0 ∧ best ≤ x
theorem BI.step {of seen : List Nat} {last best y : Nat} (h : BI of seen last best) (hy : y ∈ of) : BI of (seen ++ [y]) last (bs of last best y) := by
  by_cases h1 : y = 1 ∧ last = 0
  · rw [bs_one h1]
    refine ⟨.inr ⟨⟨by rw [← h1.1]; exact hy, Nat.le_refl _, .inl rfl⟩, by omega⟩, fun x _ hx _ => ⟨by omega, hx.2.1⟩⟩
  · by_cases h2 : last < y ∧ y - 1 ∉ of ∧ (best = 0 ∨ y < best)
    · rw [bs_set h1 h2]
      refine ⟨.inr ⟨⟨hy, by omega, .inr h2.2.1⟩, h2.1⟩, fun x hx hs hl => ?_⟩
      rcases List.mem_append.1 hx with hx | hx
      · have := h.least x hx hs hl
        omega
      · rw [List.mem_singleton.1 hx]
        omega
    · rw [bs_keep h1 h2]
      refine ⟨h.good, fun x hx hs hl => ?_⟩
      rcases List.mem_append.1 hx with hx | hx
      · exact h.least x hx hs hl
      · obtain rfl := List.mem_singleton.1 hx
        rcases hs.2.2 with h3 | h3
        · omega
        · by_cases h4 : best = 0 ∨ x < best
          · exact absurd ⟨hl, h3, h4⟩ h2
          · omega
theorem BI.all (of : List Nat) (last : Nat) : BI of of last (bestOf of last of.length) := by
  have key : ∀ k, k ≤ of.length → BI of (of.take k) last (bestOf of last k) := fun k => by
    induction k with
    | zero => intro _; exact ⟨.inl rfl, fun x hx => by simp at hx⟩
    | succ k ih =>
      intro hk
      rw [bestOf_step (by omega), List.take_succ_eq_append_getElem (by omega)]
      exact (ih (by omega)).step (List.getElem_mem _)
  have := key of.length (Nat.le_refl _)
  rwa [List.take_length] at this
def lastAt (rs : List Rng) : Nat → Nat
  | 0 => 0
  | k + 1 => (rs[k]?.getD (0, 0)).2
theorem lastAt_succ {rs : List Rng} {k : Nat} (h : k < rs.length) : lastAt rs (k + 1) = rs[k].2 := by
  show (rs[k]?.getD (0, 0)).2 = _
  rw [List.getElem?_eq_getElem h]; rfl
theorem NInv.far {ts : List Nat} {rs : List Rng} (h : NInv ts rs) {i j : Nat} (hi : i < rs.length) (hj : j < rs.length) (hij : i < j) : rs[i].2 + 2 ≤ rs[j].1 := List.pairwise_iff_getElem.1 h.gap i j hi hj hij
theorem NInv.start {of ts : List Nat} {rs : List Rng} (h : NInv ts rs) (ht : ∀ x, x ∈ ts ↔ 0 < x ∧ x ∈ of) {i : Nat} (hi : i < rs.length) : Start of rs[i].1 := by
  have h1 := h.one _ (List.getElem_mem hi)
  refine ⟨((ht _).1 ((h.mem _).1 ⟨_, List.getElem_mem hi, Nat.le_refl _, h1.2⟩)).2, h1.1, ?_⟩
  by_cases e : rs[i].1 = 1
  · exact .inl e
  · refine .inr fun hm => ?_
    obtain ⟨r, hr, h2, h3⟩ := (h.mem (rs[i].1 - 1)).2 ((ht _).2 ⟨by omega, hm⟩)
    obtain ⟨j, hj, rfl⟩ := List.mem_iff_getElem.1 hr
    rcases Nat.lt_trichotomy j i with g | g | g
    · have := h.far hj hi g; omega
    · subst g; omega
    · have := h.far hi hj g; omega
theorem NInv.start_of {of ts : List Nat} {rs : List Rng} (h : NInv ts rs) (ht : ∀ x, x ∈ ts ↔ 0 < x ∧ x ∈ of) {x : Nat} (hx : Start of x) : ∃ (j : Nat) (hj : j < rs.length), rs[j].1 = x := by
  obtain ⟨r, hr, h2, h3⟩ := (h.mem x).2 ((ht _).2 ⟨hx.2.1, hx.1⟩)
  have h1 := h.one r hr
  obtain ⟨j, hj, e⟩ := List.mem_iff_getElem.1 hr
  refine ⟨j, hj, ?_⟩
  rw [e]
  rcases Nat.lt_or_ge r.1 x with g | g
  · have := ((ht _).1 ((h.mem (x - 1)).1 ⟨r, hr, by omega, by omega⟩)).2
    rcases hx.2.2 with g2 | g2
    · omega
    · exact absurd this g2
  · omega
theorem NInv.later {ts : List Nat} {rs : List Rng} (h : NInv ts rs) {j k : Nat} (hj : j < rs.length) (hk : k ≤ rs.length) : lastAt rs k < rs[j].1 ↔ k ≤ j := by
  have hj1 := h.one _ (List.getElem_mem hj)
  cases k with
  | zero => exact ⟨fun _ => Nat.zero_le _, fun _ => by show 0 < _; omega⟩
  | succ m =>
    rw [lastAt_succ (by omega)]
    have hm1 := h.one _ (List.getElem_mem (show m < rs.length by omega))
    rcases Nat.lt_trichotomy j m with g | g | g
    · have := h.far hj (by omega) g
      exact ⟨fun _ => by omega, fun _ => by omega⟩
    · subst g; exact ⟨fun _ => by omega, fun _ => by omega⟩
    · have := h.far (show m < rs.length by omega) hj g
      exact ⟨fun _ => by omega, fun _ => by omega⟩
theorem NInv.best {of ts : List Nat} {rs : List Rng} (h : NInv ts rs) (ht : ∀ x, x ∈ ts ↔ 0 < x ∧ x ∈ of) {k : Nat} (hk : k < rs.length) : bestOf of (lastAt rs k) of.length = rs[k].1 := by
  have hb := BI.all of (lastAt rs k)
  generalize bestOf of (lastAt rs k) of.length = best at hb
  have h1 := h.start ht hk
  have h2 := hb.least _ h1.1 h1 ((h.later hk (by omega)).2 (Nat.le_refl _))
  rcases hb.good with h3 | ⟨h3, h4⟩
  · exact absurd h3 h2.1
  · obtain ⟨j, hj, rfl⟩ := h.start_of ht h3
    have h5 := (h.later hj (by omega)).1 h4
    rcases Nat.lt_or_ge k j with g | g
    · have := h.far hk hj g
      have := h.one _ (List.getElem_mem hk)
      omega
    · obtain rfl : j = k := by omega
      rfl
theorem NInv.best0 {of ts : List Nat} {rs : List Rng} (h : NInv ts rs) (ht : ∀ x, x ∈ ts ↔ 0 < x ∧ x ∈ of) : bestOf of (lastAt rs rs.length) of.length = 0 := by
  have hb := BI.all of (lastAt rs rs.length)
  generalize bestOf of (lastAt rs rs.length) of.length = best at hb
  rcases hb.good with h3 | ⟨h3, h4⟩
  · exact h3
  · obtain ⟨j, hj, rfl⟩ := h.start_of ht h3
    have h5 := (h.later hj (Nat.le_refl _)).1 h4
    omega
theorem NInv.ext {of ts : List Nat} {rs : List Rng} (h : NInv ts rs) (ht : ∀ x, x ∈ ts ↔ 0 < x ∧ x ∈ of) {k : Nat} (hk : k < rs.length) {c : Nat} (h1 : rs[k].1 ≤ c) (h2 : c ≤ rs[k].2) : decide (c + 1 ∈ of) = decide (c < rs[k].2) := by
  congr 1
  refine propext ⟨fun hm => ?_, fun hl => ((ht _).1 ((h.mem (c + 1)).1 ⟨_, List.getElem_mem hk, by omega, hl⟩)).2⟩
  obtain ⟨r, hr, h3, h4⟩ := (h.mem (c + 1)).2 ((ht _).2 ⟨by omega, hm⟩)
  obtain ⟨j, hj, rfl⟩ := List.mem_iff_getElem.1 hr
  rcases Nat.lt_trichotomy j k with g | g | g
  · have := h.far hj hk g; omega
  · subst g; omega
  · have := h.far hk hj g; omega
set_option maxRecDepth 100000 in
set_option maxHeartbeats 4000000 in
theorem in_any (of : List Nat) (v : Value) (x : Nat) (xi : Int) (hxi : xi = x) (w : World) (hr : Rd w v of.length (of.map encU)) (hol : of.length ≤ 1000000) :
    Calls Tryd.prog 26 #[v, .int .u64 xi] w fun e w' => e = .returned (.bool (decide (x ∈ of))) ∧ w' = w := by
  subst hxi
  have hr0 := Lib.hid hr
  obtain ⟨ao, cap, rfl, -⟩ := hr
  go_enter Tryd.func26, Tryd.ntmps26
  go_wp2_with fail
  go_loopw [5] (fun v5 wr => ∃ k : Nat, v5 = .int .i64 k ∧ k ≤ of.length ∧ Hid (x ∉ of.take k) ∧ wr = w) (fun v5 _ => of.length - (intOf v5).toNat)
  case atStart => exact ⟨0, rfl, Nat.zero_le _, Lib.hid (by simp), rfl⟩
  case round =>
    obtain ⟨k, rfl, hk, hno, rfl⟩ := hrel
    by_cases hlt : k < of.length
    · have hl1 : (k : Int) < (of.length : Int) := by omega
      obtain ⟨b, o, c', hv, hbl, ca⟩ := rd_at hr0.out hlt
      injection hv with q1 q2 q3
      subst q1 q3
      have hst : x ≠ of[k] → x ∉ of.take (k + 1) := fun h => by
        rw [List.take_succ_eq_append_getElem hlt, List.mem_append, List.mem_singleton]
        exact fun g => g.elim hno.out h
      have hyes : x = of[k] → decide (x ∈ of) = true := fun h => by rw [h]; exact decide_eq_true (List.getElem_mem hlt)
      generalize of[k] = y at ca hst hyes
      by_cases hxy : x = y
      · have e1 : ((y : Int) == (x : Int)) = true := by rw [hxy]; simp
        have hy := Lib.hid (hyes hxy)
        clear hst hyes hxy
        go_wp2_with fail
        go_ret
        exact ⟨by rw [hy.out]; rfl, rfl⟩
      · have e1 : ((y : Int) == (x : Int)) = false := by rw [beq_eq_false_iff_ne]; omega
        have hy := Lib.hid (hst hxy)
        clear hst hyes hxy
        go_wp2_with fail
        go_roundw
        case rel => exact ⟨k + 1, by go_num, by omega, hy, by trivial⟩
        case measure => simp [intOf] <;> omega
    · obtain rfl : k = of.length := by omega
      have hy : Hid (decide (x ∈ of) = false) := Lib.hid (decide_eq_false (by have := hno.out; rwa [List.take_length] at this))
      go_wp2_with fail
      go_ret
      exact ⟨by rw [hy.out]; rfl, rfl⟩
end Go.Proofs.YtifpmcfadmmkiaaDoor
