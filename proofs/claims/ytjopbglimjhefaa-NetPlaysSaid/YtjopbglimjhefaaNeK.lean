/- Send: walked. -/
import Derived.Test.YtjopbglimjhefaaNeJ
import Derived.StillTailTactics
namespace Go.Proofs.Ytjopbglimjhefaa
open Go.RowKit Go.Maps Go.WideMaps

def linkB (a b : Int) : Bool := decide (1 ≤ a ∧ a ≤ 5 ∧ 1 ≤ b ∧ b ≤ 5 ∧ a ≠ b)
theorem linkB_iff (a b : Int) : Lk (lo a b) (hi a b) ↔ linkB a b = true := by
  unfold Lk lo hi linkB
  simp only [decide_eq_true_eq]
  split <;> omega
/-- what Send says of its arguments -/
def sendOk (a b d : Int) : Bool := linkB a b && decide (0 ≤ d) && decide (d ≤ 100)
def SendRet (W : World) (b m : Nat) (v : Value) (l : List Pk) (now last N : Nat) (C : Int → Int → Bool) (x y : Int) (s : ByteArray) (d : Int) (e : Ending) (w' : World) : Prop :=
  (sendOk x y d = false ∧ e = .returned (.tuple #[.int .i64 0, .int .i64 1]) ∧ Hid (Below W.heap.size W w')) ∨
  (sendOk x y d = true ∧ 512 ≤ l.length ∧ e = .returned (.tuple #[.int .i64 0, .int .i64 7]) ∧ Hid (Below W.heap.size W w')) ∨
  (sendOk x y d = true ∧ l.length < 512 ∧ e = .returned (.tuple #[.int .i64 ((last + 1 : Nat) : Int), .int .i64 0]) ∧ ∃ v' l', Hid (NetAt w' b m v' l' now (last + 1) N C) ∧ Hid (l'.Perm (⟨(last + 1 : Nat), x, y, s, now + d⟩ :: l) ∧ Heap l' l'.length) ∧ Hid (NSame W b m v w' ∧ Later W v v'))
set_option maxRecDepth 100000 in
set_option maxHeartbeats 4000000 in
theorem send_any (b m : Nat) (v : Value) (l : List Pk) (now last N : Nat) (C : Int → Int → Bool) (x y : Int) (s : ByteArray) (d : Int) (hnow : now < 1000000) (hlast : last < 1000000) (W : World) (h : NetAt W b m v l now last N C) (hh : Heap l l.length) (hl : l.length ≤ 512) :
    Calls Try.prog 18 #[.pointer (some ⟨b, 0, none⟩), .int .i64 x, .int .i64 y, .string s, .int .i64 d] W (SendRet W b m v l now last N C x y s d) := by
  have hlk := Lib.hid (link_any x y W)
  obtain ⟨ao, cap, hv⟩ := h.fl.2.2.1.len
  replace h := Lib.hid h
  go_enter Try.func18, Try.ntmps18
  go_wp2_with fail
  refine hlk.out.mono ?_
  rintro e w1 ⟨x1, y1, ok, rfl, hxy, hb1⟩
  have hok : ok = linkB x y := by
    have := hxy.out.2.2
    rw [hxy.out.1, hxy.out.2.1, linkB_iff] at this
    cases ok <;> cases hq : linkB x y <;> simp_all
  subst hok
  clear hlk
  have hB := Lib.hid ((hb1.out).alloc hb1.out.size (.cells #[.int .i64 x1, .int .i64 y1] 57))
  have h1 := h.out.below hb1.out
  have hbl := h1.fl.lt
  have hbs : b ≠ w1.heap.size := by omega
  have c0 := h1.fl.1
  have c1 := h1.now
  have c2 := h1.last
  have f2 := h1.f2
  subst hv
  replace h1 := Lib.hid h1
  cases hq : linkB x y
  · have hs : sendOk x y d = false := by unfold sendOk; rw [hq]; rfl
    replace hs := Lib.hid hs
    clear hq hxy hb1
    go_wp2_with fail
    go_ret2
    exact .inl ⟨hs.out, rfl, hB⟩
  · by_cases hd0 : d < 0
    · have hs : sendOk x y d = false := by unfold sendOk; simp; omega
      replace hs := Lib.hid hs
      clear hq hxy hb1
      go_wp2_with fail
      go_ret2
      exact .inl ⟨hs.out, rfl, hB⟩
    · by_cases hd1 : 100 < d
      · have hs : sendOk x y d = false := by unfold sendOk; simp; omega
        replace hs := Lib.hid hs
        clear hq hxy hb1
        go_wp2_with fail
        go_ret2
        exact .inl ⟨hs.out, rfl, hB⟩
      · have hs : sendOk x y d = true := by unfold sendOk; rw [hq]; simp; omega
        replace hs := Lib.hid hs
        by_cases hfull : 512 ≤ l.length
        · have hf' : (512 : Int) ≤ (l.length : Int) := by omega
          clear hq hxy hb1
          go_wp2_with fail
          go_ret2
          exact .inr (.inl ⟨hs.out, hfull, rfl, hB⟩)
        · have hf' : (l.length : Int) < 512 := by omega
          have hlt : l.length < 512 := by omega
          have h3 := h1.out.set 2 (last + 1) (.inr rfl)
          rw [if_neg (by decide), if_pos rfl] at h3
          have h4 := h3.1.below ((Below.refl _ _).alloc (Nat.le_refl _) (.cells #[.int .i64 x1, .int .i64 y1] 57))
          have hS4 := ((NSame.of_below hb1.out b m (.slice ao l.length cap)).trans (Later.refl _ _) h3.2).trans (Later.refl _ _) (NSame.of_below ((Below.refl _ _).alloc (Nat.le_refl _) (.cells #[.int .i64 x1, .int .i64 y1] 57)) b m (.slice ao l.length cap))
          have el : ((last + 1 : Nat) : Int) = (last : Int) + 1 := by omega
          rw [el] at h4 hS4
          have hpush := Lib.hid (fun W2 (hF : Fl W2 b (.slice ao l.length cap) l) => heapPush_any b (.slice ao l.length cap) l ⟨(last : Int) + 1, x, y, s, (now : Int) + d⟩ (by omega) W2 hF hh)
          simp only [pkVal] at hpush
          replace h4 := Lib.hid h4
          replace hS4 := Lib.hid hS4
          clear hq hxy hb1 h3 el
          go_wp2_with fail
          generalize (w1.setCell ⟨b, 2, none⟩ (.int .i64 ((last : Int) + 1))).alloc (.cells #[.int .i64 x1, .int .i64 y1] 57) = w2 at h4 hS4 ⊢
          have c1 := h4.out.now
          have c2 := h4.out.last
          go_still_tail 19, (by kernel_rfl)
          change wpList _ _ _ _ _ w2.drew
          have hD : Below w2.heap.size w2 w2.drew := (Below.refl _ w2).drew
          have h5 := Lib.hid (h4.out.below hD)
          have hS5 := Lib.hid (hS4.out.trans (Later.refl _ _) (NSame.of_below hD b m (.slice ao l.length cap)))
          clear h4 hS4 hD c1 c2
          generalize w2.drew = w3 at h5 hS5 ⊢
          have hcall := Lib.hid (hpush.out w3 h5.out.fl)
          clear hpush
          go_wp2_with fail
          refine hcall.out.mono ?_
          rintro e w4 ⟨rfl, v', l', h6, h7, h8⟩
          have h9 := h5.out.flown h6.out h8.out.1 h8.out.2
          have c2 := h9.last
          have hS := Lib.hid (And.intro (hS5.out.trans (Later.refl _ _) (NSame.of_f h8.out.1)) (show Later W (.slice ao l.length cap) v' from (Later.refl _ _).trans h8.out.2 hS5.out.size))
          replace h9 := Lib.hid h9
          clear hcall h5 hS5 h6 h8
          go_wp2_with fail
          go_ret2
          exact .inr (.inr ⟨hs.out, hlt, rfl, v', l', h9, h7, hS⟩)
end Go.Proofs.Ytjopbglimjhefaa
