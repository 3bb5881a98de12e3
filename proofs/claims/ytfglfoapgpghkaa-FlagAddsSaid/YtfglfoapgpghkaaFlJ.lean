/- The law FlagOnce: walked. -/
import Derived.Test.YtfglfoapgpghkaaFlI
namespace Go.Proofs.Ytfglfoapgpghkaa
open Go.RowKit

theorem rev_drop {m : List (List UInt8)} {j : Nat} (h : j < m.length) : (m.drop j).reverse.map upL = (m.drop (j + 1)).reverse.map upL ++ [upL m[j]] := by
  rw [drop_get h, List.reverse_cons, List.map_append]; rfl
theorem short_of {l : List (List UInt8)} (h : ∀ c ∈ l, c.length ≤ 32) : Sized l := fun x hx => small_size x (by have := h x hx; omega)
set_option maxRecDepth 100000 in
set_option maxHeartbeats 2000000 in
theorem flagOnce_any (v : Value) (l : List (List UInt8)) (w : World) (hr : Rd w v l.length (l.map encStr)) (hl : (l.length + 2) * 16 ≤ 140737488355328) (hs : Sized l) :
    Calls Try.prog 4 #[v] w fun e w' => e = .returned (.bool true) ∧ Below w.heap.size w w' := by
  have hr0 := Lib.hid hr
  replace hs := Lib.hid hs
  clear hr
  go_enter Try.func4, Try.ntmps4
  go_wp2_with fail
  refine (alive_any w).mono ?_
  rintro e w1 ⟨rfl, b1⟩
  replace b1 := Lib.hid b1
  go_wp2_with fail
  refine (make_any v l w1 (hr0.out.below b1.out) hl hs.out).mono ?_
  rintro e w2 ⟨v2, rfl, hr2, b2⟩
  have b2' := Lib.hid (b1.out.trans (b2.out.mono b1.out.size))
  clear b1 b2 hr0
  by_cases hcode : makeCode l = 0
  · have hright := Lib.hid (made_right hcode)
    generalize makeSet l = m at hr2 hright
    rw [hcode]
    have h16 : m.length ≤ 16 := ((rightB_iff m).1 hright.out).2.1
    have hag := Lib.hid (made_again hright.out)
    have hsh := Lib.hid (right_short hright.out)
    clear hcode hs hl
    obtain ⟨ao, cap, rfl, -⟩ : ∃ ao cap, v2 = .slice ao m.length cap ∧ True := by
      obtain ⟨ao, cap, h, _⟩ := hr2.out; exact ⟨ao, cap, h, trivial⟩
    go_wp2_with fail
    go_loopw [5, 6] (fun vo vk wr => ∃ (j : Nat) (iv : Int) (out : List (List UInt8)), vk = .int .i64 iv ∧ iv = (j : Int) - 1 ∧ j ≤ m.length ∧ Hid (out = (m.drop j).reverse.map upL) ∧ Hid (OwnT wr w2.heap.size vo out) ∧ Hid (Below w2.heap.size w2 wr)) (fun _ vk _ => (intOf vk + 1).toNat)
    case atStart => exact ⟨m.length, _, [], by go_num, rfl, Nat.le_refl _, Lib.hid (by simp), Lib.hid (OwnT.nil _ _), Lib.hid (Below.refl _ _)⟩
    case round =>
      obtain ⟨j, iv, out, rfl, hiv, hj, hout, hown, hb⟩ := hrel
      have hsz := hb.out.size
      have hrm := Lib.hid (hr2.out.below hb.out)
      have hb9 := Lib.hid (b2'.out.trans (hb.out.mono b2'.out.size))
      have hol : out.length = m.length - j := by rw [hout.out]; simp
      cases j with
      | zero =>
        have hneg : iv < 0 := by omega
        have hneg2 : decide (iv ≥ 0) = false := decide_eq_false (by omega)
        have hag2 : Hid (makeCode out = 0 ∧ makeSet out = m) := by
          have e := hout.out
          rw [List.drop_zero] at e
          rw [e]; exact hag
        clear hag
        have hso : Sized out := short_of (by
          intro c hc
          rw [hout.out, List.drop_zero] at hc
          obtain ⟨x, hx, rfl⟩ := List.mem_map.1 hc
          rw [upL_length]
          exact hsh.out x (by simpa using hx))
        clear hout
        go_wp2_with fail
        refine (make_any u5 out wr hown.out.rd (by omega) hso).mono ?_
        rintro e w3 ⟨v3, rfl, hr3, b3⟩
        rw [hag2.out.1]
        have hr3' : Hid (Rd w3 v3 m.length (m.map encStr)) := by have h := hr3; rw [hag2.out.2] at h; exact h
        have hrm3 := Lib.hid (hrm.out.below b3.out)
        have b3' := Lib.hid (hb9.out.trans (b3.out.mono hb9.out.size))
        clear hr3 b3 hb9 hrm hag2
        go_wp2_with fail
        refine (right_any _ m w3 hrm3.out (by omega) (short_of hsh.out)).mono ?_
        rintro e w4 ⟨rfl, b4⟩
        rw [hright.out]
        have hrm4 := Lib.hid (hrm3.out.below b4.out)
        have hr4 := Lib.hid (hr3'.out.below b4.out)
        have b4' := Lib.hid (b3'.out.trans (b4.out.mono b3'.out.size))
        clear hr3' hrm3 b4 b3'
        go_wp2_with fail
        refine (same_any v3 _ m m w4 hr4.out hrm4.out (by omega)).mono ?_
        rintro e w5 ⟨rfl, b5⟩
        rw [show decide (m = m) = true from by simp]
        have b5' := Lib.hid (b4'.out.trans (b5.mono b4'.out.size))
        clear b5 b4'
        go_wp2_with fail
        go_ret
        exact ⟨rfl, b5'.out⟩
      | succ j =>
        obtain rfl : iv = (j : Int) := by omega
        have hjm : j < m.length := by omega
        clear hiv hj
        replace hol : out.length ≤ 16 := by omega
        obtain ⟨b, o, hao, hbl, hcell⟩ := hrm.out.at_pos (by omega)
        subst hao
        have hcw : wr.cell? ⟨b, o + j, none⟩ = some (.string (mkB m[j])) := rd_cell hcell hjm
        have hgr := Lib.hid (great_any (mkB m[j]) (small_size _ (by have := hsh.out _ (List.getElem_mem hjm); omega)) wr)
        have hnx : Hid ((m.drop j).reverse.map upL = out ++ [upL m[j]]) := Lib.hid (by rw [rev_drop hjm, ← hout.out])
        rw [mkB_list] at hgr
        generalize mkB m[j] = X at hcw hgr
        clear hcell hout hag hright
        go_wp2_with fail
        refine hgr.out.mono ?_
        rintro e w3 ⟨u, rfl, hu, b3⟩
        have hb3 := Lib.hid (hb.out.trans (b3.mono hb.out.size))
        have hown3 := Lib.hid (hown.out.below b3)
        have hsz3 := hb3.out.size
        rw [← hu.out] at hnx
        clear hgr hu b3
        go_wp2_with (at_builtin; refine wpList_append_text rfl (.tmp 28) (.tmp 34) rfl w2.heap.size u5 out w3.heap.size u rfl rfl (hown3.out.below (Lays.alloc _ _).below) (by simp) (by simp) (by omega) (by simp; omega) ?_)
        intro v4 w4 ho4 hg4 hv4
        have hb4 := Lib.hid ((hb3.out.alloc hb3.out.size _).grown hg4 (by simp; omega) (fun k hk => (hown.out.lt k hk).1))
        replace ho4 := Lib.hid ho4
        clear hg4 hv4
        go_wp2_with fail
        go_roundw
        case rel => exact ⟨j, (j : Int) - 1, _, by go_num, rfl, by omega, Lib.hid hnx.out.symm, ho4, hb4⟩
        case measure =>
          show ((j : Int) - 1 + 1).toNat < ((j : Int) + 1).toNat
          omega
  · have hne : ((makeCode l : Int) != 0) = true := by rw [bne_iff_ne]; omega
    have hm := set_empty hcode
    rw [hm] at hr2
    obtain ⟨ao, cap, rfl, -⟩ : ∃ ao cap, v2 = .slice ao 0 cap ∧ True := by
      obtain ⟨ao, cap, h, _⟩ := hr2.out; exact ⟨ao, cap, h, trivial⟩
    generalize makeCode l = C at hne hcode ⊢
    clear hm hcode
    go_wp2_with fail
    go_ret
    exact ⟨rfl, b2'.out⟩
end Go.Proofs.Ytfglfoapgpghkaa
