/- container/heap's Remove and Fix: walked. -/
import Derived.Test.YtjopbglimjhefaaNeG
namespace Go.Proofs.Ytjopbglimjhefaa
open Go.RowKit

theorem Downed.exc {l0 l : List Pk} {n i0 : Nat} (h : Downed l0 l n i0 false) (hx : Exc l0 n i0) : l = l0 ∧ Exc l0 n i0 ∧ Under l0 n i0 := by
  obtain ⟨rfl, hu⟩ := h.2.2 rfl
  exact ⟨rfl, hx, hu⟩
set_option maxRecDepth 100000 in
set_option maxHeartbeats 4000000 in
theorem heapFix_any (b i : Nat) (v : Value) (l : List Pk) (hi : i < l.length) (hlen : l.length ≤ 1000000) (W : World) (hfl : Fl W b v l) (hx : Exc l l.length i) :
    Calls Try.prog 37 #[.iface 64 (.pointer (some ⟨b, 0, none⟩)), .int .i64 i] W fun e w' => e = .returned (.tuple #[]) ∧ ∃ l', Hid (Fl w' b v l') ∧ Hid (l'.Perm l ∧ Heap l' l'.length) ∧ Hid (FSame W b v w') := by
  obtain ⟨g, cap, rest, rfl, hbg, -, hrow, hsl, hback⟩ := hfl.row (by omega)
  have hml := method_at method_len hsl
  have hlen1 := Lib.hid (len_any (.slice (some ⟨g, 0, none⟩) l.length cap) l W ⟨_, _, rfl⟩)
  have hdn := Lib.hid (down_any b g cap l rest i l.length hbg (by omega) (Nat.le_refl _) hlen W hsl hrow hx)
  have hup := Lib.hid (fun W' l' (hl : l'.length = l.length) => up_any b g cap l' rest i l.length hbg hi (by omega) (by omega) W')
  replace hback := Lib.hid hback
  replace hsl := Lib.hid hsl
  replace hx := Lib.hid hx
  clear hrow hfl
  go_enter Try.func37, Try.ntmps37
  go_wp2_with fail
  refine hlen1.out.mono ?_
  rintro e w1 ⟨rfl, rfl⟩
  clear hml hlen1
  go_wp2_with fail
  refine hdn.out.mono ?_
  rintro e w3 ⟨m, l3, rfl, h3, h4, h5⟩
  clear hdn
  have hl3 : l3.length = l.length := h4.out.1.len
  cases m
  · obtain ⟨hl, hx3, hu3⟩ := h4.out.exc hx.out
    subst hl
    have hup1 := Lib.hid (hup.out w3 l3 rfl (h5.out.cell hbg hsl.out) h3.out ⟨hx3, hu3⟩)
    clear hx3 hu3 hup hl3
    go_wp2_with fail
    refine hup1.out.mono ?_
    rintro e w4 ⟨rfl, l4, h6, h7, h8⟩
    have hb4 := hback.out w4 l4 h7.out.1.len h6.out (h5.out.trans h8.out)
    have hF := Lib.hid hb4.1
    have hS := Lib.hid hb4.2
    have hP := Lib.hid (And.intro h7.out.1.1 (show Heap l4 l4.length by rw [h7.out.1.len]; exact h7.out.2))
    clear hb4 hback hup1
    go_wp2_with fail
    go_end0
    exact ⟨rfl, l4, hF, hP, hS⟩
  · have hb4 := hback.out w3 l3 hl3 h3.out h5.out
    have hF := Lib.hid hb4.1
    have hS := Lib.hid hb4.2
    have hP := Lib.hid (And.intro h4.out.1.1 (show Heap l3 l3.length by rw [hl3]; exact h4.out.2.1 rfl))
    clear hb4 hback hl3 hup
    go_wp2_with fail
    go_end0
    exact ⟨rfl, l3, hF, hP, hS⟩
theorem cut_last {l : List Pk} {n : Nat} (hl : l.length = n + 1) : (pat l n :: l.take n).Perm l := by
  have h3 : l.take (n + 1) = l.take n ++ [l[n]] := List.take_succ_eq_append_getElem (by omega)
  rw [List.take_of_length_le (by omega)] at h3
  rw [pat_lt (by omega)]
  exact (List.perm_append_singleton _ _).symm.trans (by rw [← h3])
set_option maxRecDepth 100000 in
set_option maxHeartbeats 4000000 in
theorem heapRemove_any (b n i : Nat) (v : Value) (l : List Pk) (hl : l.length = n + 1) (hi : i ≤ n) (hlen : n < 1000000) (W : World) (hfl : Fl W b v l) (hh : Heap l (n + 1)) :
    Calls Try.prog 36 #[.iface 64 (.pointer (some ⟨b, 0, none⟩)), .int .i64 i] W fun e w' => e = .returned (.iface 30 (pkVal (pat l i))) ∧ ∃ v' l', Hid (Fl w' b v' l') ∧ Hid ((pat l i :: l').Perm l ∧ Heap l' l'.length) ∧ Hid (FSame W b v w' ∧ Later W v v') := by
  obtain ⟨g, cap, rest, rfl, hbg, -, hrow, hsl, hback⟩ := hfl.row (by omega)
  have hml := method_at method_len hsl
  have hms := method_at method_swap hsl
  have hlen1 := len_any (.slice (some ⟨g, 0, none⟩) l.length cap) l W ⟨_, _, rfl⟩
  rw [hl] at hml hms hlen1
  replace hlen1 := Lib.hid hlen1
  have eq1 : ((n + 1 : Nat) : Int) - 1 = (n : Int) := by omega
  have hlat : Later W (.slice (some ⟨g, 0, none⟩) (n + 1) cap) (.slice (some ⟨g, 0, none⟩) n cap) := fun k hk => .inl hk
  rw [← hl] at hlat
  replace hlat := Lib.hid hlat
  have hm := method_pop
  by_cases hin : i = n
  · subst hin
    have hq : ((i : Int) == (i : Int)) = true := by simp
    have hpop := hfl
    rw [hl] at hpop
    have hpop := Lib.hid (pop_any b g cap i l hl hlen W hpop)
    have hP := Lib.hid (And.intro (cut_last hl) ((hh.less (Nat.le_succ i)).take (by omega)))
    clear hms hback hh hrow hsl hfl
    go_enter Try.func36, Try.ntmps36
    go_wp2_with fail
    refine hlen1.out.mono ?_
    rintro e w1 ⟨rfl, rfl⟩
    clear hml hlen1
    have hq2 : ((i : Int) != (i : Int)) = false := by simp
    go_wp2_with fail
    refine hpop.out.mono ?_
    rintro e w4 ⟨rfl, h6, h7⟩
    rw [← hl] at h7
    have hS := Lib.hid (And.intro h7.out hlat.out)
    clear hpop h7 hm hlat
    go_wp2_with fail
    go_ret
    exact ⟨rfl, _, _, h6, hP, hS⟩
  · have hin' : i < n := by omega
    have hx := Lib.hid (Exc.cut hh (by omega) hi)
    have hl1 : (pswp l i n).length = n + 1 := by rw [pswp_len, hl]
    have hsw := swap_rel g cap l rest i n (by omega) (by omega) W hrow
    rw [hl] at hsw
    replace hsw := Lib.hid hsw
    have hup := Lib.hid (fun W' l' (hl : l'.length = n + 1) => up_any b g cap l' rest i n hbg hin' (by omega) (by omega) W')
    replace hback := Lib.hid hback
    replace hsl := Lib.hid hsl
    have hq : ((n : Int) == (i : Int)) = false := by simp; omega
    have hq2 := bne_t hq
    clear hh hrow hfl
    go_enter Try.func36, Try.ntmps36
    go_wp2_with fail
    refine hlen1.out.mono ?_
    rintro e w1 ⟨rfl, rfl⟩
    clear hml hlen1
    go_wp2_with fail
    refine hsw.out.mono ?_
    rintro e w2 ⟨rfl, h1, h2⟩
    have hsl2 : FSlice w2 b g (n + 1) cap := by
      have := h2.cell hbg hsl.out
      rwa [hl] at this
    have hdn := down_any b g cap (pswp l i n) rest i n hbg hi (by omega) (by omega) w2 (by rw [hl1]; exact hsl2) h1 hx.out
    replace hdn := Lib.hid hdn
    replace h2 := Lib.hid h2
    clear hms hsw h1
    replace hsl2 := Lib.hid hsl2
    go_wp2_with fail
    refine hdn.out.mono ?_
    rintro e w3 ⟨m, l3, rfl, h3, h4, h5⟩
    clear hdn
    have hl3 : l3.length = n + 1 := by rw [h4.out.1.len, hl1]
    have fin : ∀ (w5 : World) (l5 : List Pk), PRow w5 g l5 rest → PTurn n (pswp l i n) l5 → Heap l5 n → Kept1 w1 g w5 →
        Calls Try.prog 82 #[.pointer (some ⟨b, 0, none⟩)] w5 (fun e w' => e = .returned (.iface 30 (pkVal (pat l i))) ∧ Hid (Fl w' b (.slice (some ⟨g, 0, none⟩) n cap) (l5.take n)) ∧ Hid (FSame w5 b (.slice (some ⟨g, 0, none⟩) (n + 1) cap) w')) ∧ ((pat l i :: l5.take n).Perm l ∧ Heap (l5.take n) (l5.take n).length) ∧ FSame w1 b (.slice (some ⟨g, 0, none⟩) l.length cap) w5 := fun w5 l5 g1 g2 g3 g4 => by
      have hl5 : l5.length = n + 1 := by rw [g2.len, hl1]
      have hb5 := hback.out w5 l5 (by rw [hl5, hl]) g1 g4
      have hpop := pop_any b g cap n l5 hl5 hlen w5 (by have := hb5.1; rwa [hl] at this)
      have e0 : pat l5 n = pat l i := by
        rw [g2.at_end, pswp_at l i n n (by omega) (by omega), if_pos rfl]
      rw [e0] at hpop
      exact ⟨hpop, ⟨cut_perm hl hi g2, g3.take (by omega)⟩, hb5.2⟩
    cases m
    · obtain ⟨rfl, hx3, hu3⟩ := h4.out.exc hx.out
      have hup1 := Lib.hid (hup.out w3 (pswp l i n) hl1 (by rw [hl1]; exact h5.out.cell hbg hsl2.out) h3.out ⟨hx3, hu3⟩)
      clear hx3 hu3 hup hl3
      replace fin := Lib.hid fin
      go_wp2_with fail
      refine hup1.out.mono ?_
      rintro e w4 ⟨rfl, l4, h6, h7, h8⟩
      obtain ⟨hpop, hP, hS5⟩ := fin.out w4 l4 h6.out h7.out.1 h7.out.2 (h2.out.trans (h5.out.trans h8.out))
      replace hpop := Lib.hid hpop
      replace hP := Lib.hid hP
      replace hS5 := Lib.hid hS5
      clear hup1 fin hback h2 h3 h4 h5 h6 h7 h8
      go_wp2_with fail
      refine hpop.out.mono ?_
      rintro e w6 ⟨rfl, h6, h7⟩
      rw [← hl] at h7
      have hS := Lib.hid (And.intro (hS5.out.trans (Later.refl _ _) h7.out) hlat.out)
      clear hpop h7 hm hlat hS5
      go_wp2_with fail
      go_ret
      exact ⟨rfl, _, _, h6, hP, hS⟩
    · obtain ⟨hpop, hP, hS5⟩ := fin w3 l3 h3.out h4.out.1 (h4.out.2.1 rfl) (h2.out.trans h5.out)
      replace hpop := Lib.hid hpop
      replace hP := Lib.hid hP
      replace hS5 := Lib.hid hS5
      clear hup fin hback h2 h3 h4 h5
      go_wp2_with fail
      refine hpop.out.mono ?_
      rintro e w6 ⟨rfl, h6, h7⟩
      rw [← hl] at h7
      have hS := Lib.hid (And.intro (hS5.out.trans (Later.refl _ _) h7.out) hlat.out)
      clear hpop h7 hm hlat hS5
      go_wp2_with fail
      go_ret
      exact ⟨rfl, _, _, h6, hP, hS⟩
end Go.Proofs.Ytjopbglimjhefaa
