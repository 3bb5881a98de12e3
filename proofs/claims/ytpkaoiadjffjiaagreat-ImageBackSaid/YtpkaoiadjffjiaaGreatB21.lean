/- ImageBack: walked. (written by tools/gen_ImU.py) -/
import Derived.Test.YtpkaoiadjffjiaaGreatB19
import Derived.Test.YtpkaoiadjffjiaaGreatB20
namespace Go.Proofs.YtpkaoiadjffjiaaGreat
set_option linter.unusedSimpArgs false
open Go.RowKit
attribute [local go_sem ↓] Go.wp_at_zero Go.wp_at_succ

set_option maxRecDepth 100000 in
set_option maxHeartbeats 16000000 in
theorem imageBack_any (v1 : Value) (s : ByteArray) (hs : s.size ≤ reachBytes) (W : World) (h1 : ∃ m, MlIn W v1 m ∧ NumsOk m) : Calls Tryz.prog 3 #[v1, .string s] W fun e w' => e = .returned (.bool true) ∧ Below W.heap.size W w' := by
  obtain ⟨m1, hm1, hn1⟩ := h1
  obtain ⟨ab1, cb1, nb1, ah1, ch1, as1, cs1, rfl⟩ := hm1.six
  have hmI1 : Hid (∀ wr, Below W.heap.size W wr → MlIn wr (.agg #[.slice ab1 nb1 cb1, .int .u64 m1.nv, .slice ah1 m1.homes.length ch1, .slice as1 m1.seats.length cs1, .int .u64 m1.ns, .int .u64 m1.sweeps]) m1) := Lib.hid (fun wr h => hm1.below h)
  have hz := (Zoo.nil W).newBox #[.slice ab1 nb1 cb1, .int .u64 m1.nv, .slice ah1 m1.homes.length ch1, .slice as1 m1.seats.length cs1, .int .u64 m1.ns, .int .u64 m1.sweeps] 27
  have szW : Hid (∀ wr, Below W.heap.size W wr → Below W.heap.size W wr) := Lib.hid (fun _ h => h)
  generalize hMB : W.heap.size = MB at hz szW hmI1 ⊢
  generalize hWa : W.alloc (.cells #[.slice ab1 nb1 cb1, .int .u64 m1.nv, .slice ah1 m1.homes.length ch1, .slice as1 m1.seats.length cs1, .int .u64 m1.ns, .int .u64 m1.sweeps] 27) = Wa at hz
  have hblk := (hz.box 0 rfl).1
  have hbel : Below MB W Wa := hMB ▸ hz.bel
  have hsze : MB ≤ Wa.heap.size := hMB ▸ hbel.size
  have hq : Hid (∀ wr, Below Wa.heap.size Wa wr → wr.cell? ⟨MB, 0, none⟩ = some (.slice ab1 nb1 cb1) ∧ wr.cell? ⟨MB, 1, none⟩ = some (.int .u64 m1.nv) ∧ wr.cell? ⟨MB, 2, none⟩ = some (.slice ah1 m1.homes.length ch1) ∧ wr.cell? ⟨MB, 3, none⟩ = some (.slice as1 m1.seats.length cs1) ∧ wr.cell? ⟨MB, 4, none⟩ = some (.int .u64 m1.ns) ∧ wr.cell? ⟨MB, 5, none⟩ = some (.int .u64 m1.sweeps)) := Lib.hid (fun wr h => by
    have k1 := iheap_below hblk h
    exact ⟨box_cell k1 0, box_cell k1 1, box_cell k1 2, box_cell k1 3, box_cell k1 4, box_cell k1 5⟩)
  have hbWMB : Hid (∀ wr, Below Wa.heap.size Wa wr → Below MB W wr) := Lib.hid (fun wr h => hbel.trans (h.mono hsze))
  clear hz szW hblk hbel hsze
  have hbW := hbWMB
  have hJ1 : Hid (∀ wr, Below Wa.heap.size Wa wr → MlIn wr (.agg #[.slice ab1 nb1 cb1, .int .u64 m1.nv, .slice ah1 m1.homes.length ch1, .slice as1 m1.seats.length cs1, .int .u64 m1.ns, .int .u64 m1.sweeps]) m1) := Lib.hid (fun wr h => hmI1.out wr (hbW.out wr h))
  replace hn1 := Lib.hid hn1
  replace hs := Lib.hid hs
  clear hm1 hmI1 hbWMB
  go_enter Tryz.func3, Tryz.ntmps3
  go_wp2_with fail
  refine (aliveI_any _).mono ?_
  rintro e w1 ⟨rfl, hb1⟩
  have hd1 : Below Wa.heap.size Wa w1 := hb1.out
  clear hb1
  obtain ⟨q0, q1, q2, q3, q4, q5⟩ := hq.out _ hd1
  go_wp2_with fail
  refine (lightM_any _ (hJ1.out _ hd1)).mono ?_
  rintro e w2 ⟨rfl, hb2⟩
  have hd2 : Below Wa.heap.size Wa w2 := hd1.trans (hb2.out.mono hd1.size)
  clear q0 q1 q2 q3 q4 q5 hb2
  obtain ⟨q0, q1, q2, q3, q4, q5⟩ := hq.out _ hd2
  cases hL1 : lightM m1 with
  | false =>
    clear hL1
    go_wp2_with fail
    refine (aliveI_any _).mono ?_
    rintro e w3 ⟨rfl, hb3⟩
    have hbF := Lib.hid (hbW.out _ (hd2.trans (hb3.out.mono hd2.size)))
    clear hb3
    go_wp2_with fail
    go_ret
    exact ⟨rfl, hbF.out⟩
  | true =>
    have hs1 := Lib.hid (light_sz hL1)
    clear hL1
    by_cases hl : 262144 < s.size
    · have hl' : (262144 : Int) < (s.size : Int) := by omega
      clear hl
      go_wp2_with fail
      refine (aliveI_any _).mono ?_
      rintro e w3 ⟨rfl, hb3⟩
      have hbF := Lib.hid (hbW.out _ (hd2.trans (hb3.out.mono hd2.size)))
      clear hb3
      go_wp2_with fail
      go_ret
      exact ⟨rfl, hbF.out⟩
    have hl' : decide ((262144 : Int) < (s.size : Int)) = false := decide_eq_false (by omega)
    have hs9 := Lib.hid (show s.size ≤ 1000000000000 by omega)
    clear hl hs
    go_wp2_with fail
    refine (encode_any _ (hJ1.out _ hd2) hs1.out (fun _ => hn1.out)).mono ?_
    rintro e w4 ⟨u1, c1, rfl, ho1, hb4⟩
    have hd4 : Below Wa.heap.size Wa w4 := hd2.trans (hb4.out.mono hd2.size)
    clear q0 q1 q2 q3 q4 q5 hb4
    obtain ⟨q0, q1, q2, q3, q4, q5⟩ := hq.out _ hd4
    have hs := hs9.out
    rcases ho1 with ⟨rfl, hr1, hu1⟩ | ⟨rfl, -⟩
    case inr =>
      go_wp2_with fail
      refine (decode_any s hs _).mono ?_
      rintro e w7 ⟨v7, c7, rfl, ho7, hb7⟩
      have hd7 : Below Wa.heap.size Wa w7 := hd4.trans (hb7.out.mono hd4.size)
      clear hb7
      rcases ho7 with ⟨rfl, hI, hm7⟩ | ⟨rfl, -, rfl⟩
      case inr =>
        unfold zeroMl
        have hz := (Zoo.nil w7).newBox #[.slice none 0 0, .int .u64 0, .slice none 0 0, .slice none 0 0, .int .u64 0, .int .u64 0] 27
        have szw7 : Hid (∀ wr, Below w7.heap.size w7 wr → Below w7.heap.size w7 wr) := Lib.hid (fun _ h => h)
        generalize hMD : w7.heap.size = MD at hz szw7
        generalize hWd : w7.alloc (.cells #[.slice none 0 0, .int .u64 0, .slice none 0 0, .slice none 0 0, .int .u64 0, .int .u64 0] 27) = Wd at hz
        have hblk := (hz.box 0 rfl).1
        have hbel : Below MD w7 Wd := hMD ▸ hz.bel
        have hsze : MD ≤ Wd.heap.size := hMD ▸ hbel.size
        have hqz : Hid (∀ wr, Below Wd.heap.size Wd wr → wr.cell? ⟨MD, 0, none⟩ = some (.slice none 0 0) ∧ wr.cell? ⟨MD, 1, none⟩ = some (.int .u64 0) ∧ wr.cell? ⟨MD, 2, none⟩ = some (.slice none 0 0) ∧ wr.cell? ⟨MD, 3, none⟩ = some (.slice none 0 0) ∧ wr.cell? ⟨MD, 4, none⟩ = some (.int .u64 0) ∧ wr.cell? ⟨MD, 5, none⟩ = some (.int .u64 0)) := Lib.hid (fun wr h => by
          have k1 := iheap_below hblk h
          exact ⟨box_cell k1 0, box_cell k1 1, box_cell k1 2, box_cell k1 3, box_cell k1 4, box_cell k1 5⟩)
        have hbWMD : Hid (∀ wr, Below Wd.heap.size Wd wr → Below MD w7 wr) := Lib.hid (fun wr h => hbel.trans (h.mono hsze))
        clear hz szw7 hblk hbel hsze
        have hdD : Below Wa.heap.size Wa Wd := hd7.trans ((hbWMD.out Wd (Below.refl _ _)).mono (hMD ▸ hd7.size))
        obtain ⟨z0, z1, z2, z3, z4, z5⟩ := hqz.out _ (Below.refl _ _)
        have hSz := Lib.hid (sameMl_any _ _ (z_in Wd) (z_in Wd) z_sz z_sz)
        have hbF : Hid (∀ wr, Below Wd.heap.size Wd wr → Below MB W wr) := Lib.hid (fun wr h => hbW.out wr (hdD.trans (h.mono hdD.size)))
        clear hqz hbWMD hd7 hdD
        subst hWd
        go_wp2_with fail
        refine hSz.out.mono ?_
        rintro e w8 ⟨B, rfl, hB, hb8⟩
        obtain rfl : B = true := by first | exact hB.out.2 rfl | exact hB.out.2 trivial
        have hbG := Lib.hid (hbF.out _ hb8.out)
        clear hb8
        go_wp2_with fail
        go_ret
        exact ⟨rfl, hbG.out⟩
      have hsR := Lib.hid (imageR_sz (some s.data.toList))
      have hfm := Lib.hid (image_form hI.1 hI.2.1)
      have hrR := Lib.hid hI.2.2
      clear hI
      generalize (imageR (some s.data.toList)).1.2 = mR at hm7 hsR hfm hrR
      obtain ⟨ab7, cb7, nb7, ah7, ch7, as7, cs7, rfl⟩ := hm7.six
      have hJ7 : Hid (∀ wr, Below w7.heap.size w7 wr → MlIn wr (.agg #[.slice ab7 nb7 cb7, .int .u64 mR.nv, .slice ah7 mR.homes.length ch7, .slice as7 mR.seats.length cs7, .int .u64 mR.ns, .int .u64 mR.sweeps]) mR) := Lib.hid (fun wr h => hm7.below h)
      clear hm7
      have hz := (Zoo.nil w7).newBox #[.slice ab7 nb7 cb7, .int .u64 mR.nv, .slice ah7 mR.homes.length ch7, .slice as7 mR.seats.length cs7, .int .u64 mR.ns, .int .u64 mR.sweeps] 27
      have szw7 : Hid (∀ wr, Below w7.heap.size w7 wr → Below w7.heap.size w7 wr) := Lib.hid (fun _ h => h)
      generalize hMD : w7.heap.size = MD at hz szw7 hJ7
      generalize hWd : w7.alloc (.cells #[.slice ab7 nb7 cb7, .int .u64 mR.nv, .slice ah7 mR.homes.length ch7, .slice as7 mR.seats.length cs7, .int .u64 mR.ns, .int .u64 mR.sweeps] 27) = Wd at hz
      have hblk := (hz.box 0 rfl).1
      have hbel : Below MD w7 Wd := hMD ▸ hz.bel
      have hsze : MD ≤ Wd.heap.size := hMD ▸ hbel.size
      have hqz : Hid (∀ wr, Below Wd.heap.size Wd wr → wr.cell? ⟨MD, 0, none⟩ = some (.slice ab7 nb7 cb7) ∧ wr.cell? ⟨MD, 1, none⟩ = some (.int .u64 mR.nv) ∧ wr.cell? ⟨MD, 2, none⟩ = some (.slice ah7 mR.homes.length ch7) ∧ wr.cell? ⟨MD, 3, none⟩ = some (.slice as7 mR.seats.length cs7) ∧ wr.cell? ⟨MD, 4, none⟩ = some (.int .u64 mR.ns) ∧ wr.cell? ⟨MD, 5, none⟩ = some (.int .u64 mR.sweeps)) := Lib.hid (fun wr h => by
        have k1 := iheap_below hblk h
        exact ⟨box_cell k1 0, box_cell k1 1, box_cell k1 2, box_cell k1 3, box_cell k1 4, box_cell k1 5⟩)
      have hbWMD : Hid (∀ wr, Below Wd.heap.size Wd wr → Below MD w7 wr) := Lib.hid (fun wr h => hbel.trans (h.mono hsze))
      clear hz szw7 hblk hbel hsze
      have hdD : Below Wa.heap.size Wa Wd := hd7.trans ((hbWMD.out Wd (Below.refl _ _)).mono (hMD ▸ hd7.size))
      obtain ⟨z0, z1, z2, z3, z4, z5⟩ := hqz.out _ (Below.refl _ _)
      have hbF : Hid (∀ wr, Below Wd.heap.size Wd wr → Below MB W wr) := Lib.hid (fun wr h => hbW.out wr (hdD.trans (h.mono hdD.size)))
      clear hd7 hdD
      go_wp2_with fail
      refine (encode_any _ (hJ7.out _ (hbWMD.out Wd (Below.refl _ _))) hsR.out.1 (fun _ => hsR.out.2)).mono ?_
      rintro e w8 ⟨u8, c8, rfl, ho8, hb8⟩
      rcases ho8 with ⟨rfl, -, hu8⟩ | ⟨-, hn⟩
      case inr => exact absurd hrR.out hn
      obtain rfl : s = u8 := u_lit (by rw [hu8]; exact hfm.out)
      clear z0 z1 z2 z3 z4 z5 hu8 hfm
      obtain ⟨z0, z1, z2, z3, z4, z5⟩ := hqz.out _ hb8.out
      have hRt := Lib.hid (rightM_any _ (hJ7.out _ (hbWMD.out _ hb8.out)) hsR.out.1)
      go_wp2_with fail
      refine hRt.out.mono ?_
      rintro e w9 ⟨B, rfl, hB, hb9⟩
      obtain rfl : B = true := hB.out.2 hrR.out
      have hbG := Lib.hid (hbF.out _ (hb8.out.trans (hb9.out.mono hb8.out.size)))
      go_wp2_with fail
      go_ret
      exact ⟨rfl, hbG.out⟩
    have hsz1 : u1.size ≤ 200000 := by
      have := imageL_len (hr1.image_ok hn1.out)
      have e : u1.size = u1.data.toList.length := rfl
      rw [e, hu1]; exact this
    have hB := image_back hr1 hn1.out
    have hI1 : Hid (IsImage u1) := Lib.hid (by unfold IsImage; rw [hu1, hB]; exact ⟨rfl, rfl, hr1⟩)
    have hm1 : Hid ((imageR (some u1.data.toList)).1.2 = m1) := Lib.hid (by rw [hu1, hB])
    clear hB hu1 hr1
    go_wp2_with fail
    refine (decode_any u1 (by omega) _).mono ?_
    rintro e w5 ⟨v5, c5, rfl, ho5, hb5⟩
    have hd5 : Below Wa.heap.size Wa w5 := hd4.trans (hb5.out.mono hd4.size)
    clear q0 q1 q2 q3 q4 q5 hb5
    rcases ho5 with ⟨rfl, -, hm5⟩ | ⟨-, hn, -⟩
    case inr => exact absurd hI1.out hn
    rw [hm1.out] at hm5
    obtain ⟨ab5, cb5, nb5, ah5, ch5, as5, cs5, rfl⟩ := hm5.six
    have hJ5 : Hid (∀ wr, Below w5.heap.size w5 wr → MlIn wr (.agg #[.slice ab5 nb5 cb5, .int .u64 m1.nv, .slice ah5 m1.homes.length ch5, .slice as5 m1.seats.length cs5, .int .u64 m1.ns, .int .u64 m1.sweeps]) m1) := Lib.hid (fun wr h => hm5.below h)
    clear hm5 hI1 hm1
    have hz := (Zoo.nil w5).newBox #[.slice ab5 nb5 cb5, .int .u64 m1.nv, .slice ah5 m1.homes.length ch5, .slice as5 m1.seats.length cs5, .int .u64 m1.ns, .int .u64 m1.sweeps] 27
    have szw5 : Hid (∀ wr, Below w5.heap.size w5 wr → Below w5.heap.size w5 wr) := Lib.hid (fun _ h => h)
    generalize hMC : w5.heap.size = MC at hz szw5 hJ5
    generalize hWc : w5.alloc (.cells #[.slice ab5 nb5 cb5, .int .u64 m1.nv, .slice ah5 m1.homes.length ch5, .slice as5 m1.seats.length cs5, .int .u64 m1.ns, .int .u64 m1.sweeps] 27) = Wc at hz
    have hblk := (hz.box 0 rfl).1
    have hbel : Below MC w5 Wc := hMC ▸ hz.bel
    have hsze : MC ≤ Wc.heap.size := hMC ▸ hbel.size
    have hqr : Hid (∀ wr, Below Wc.heap.size Wc wr → wr.cell? ⟨MC, 0, none⟩ = some (.slice ab5 nb5 cb5) ∧ wr.cell? ⟨MC, 1, none⟩ = some (.int .u64 m1.nv) ∧ wr.cell? ⟨MC, 2, none⟩ = some (.slice ah5 m1.homes.length ch5) ∧ wr.cell? ⟨MC, 3, none⟩ = some (.slice as5 m1.seats.length cs5) ∧ wr.cell? ⟨MC, 4, none⟩ = some (.int .u64 m1.ns) ∧ wr.cell? ⟨MC, 5, none⟩ = some (.int .u64 m1.sweeps)) := Lib.hid (fun wr h => by
      have k1 := iheap_below hblk h
      exact ⟨box_cell k1 0, box_cell k1 1, box_cell k1 2, box_cell k1 3, box_cell k1 4, box_cell k1 5⟩)
    have hbWMC : Hid (∀ wr, Below Wc.heap.size Wc wr → Below MC w5 wr) := Lib.hid (fun wr h => hbel.trans (h.mono hsze))
    clear hz szw5 hblk hbel hsze
    have hdC : Below Wa.heap.size Wa Wc := hd5.trans ((hbWMC.out Wc (Below.refl _ _)).mono (hMC ▸ hd5.size))
    obtain ⟨q0, q1, q2, q3, q4, q5⟩ := hq.out _ hdC
    obtain ⟨r0, r1, r2, r3, r4, r5⟩ := hqr.out _ (Below.refl _ _)
    have hSm := Lib.hid (sameMl_any _ _ (hJ5.out Wc (hbWMC.out Wc (Below.refl _ _))) (hJ1.out _ hdC) hs1.out hs1.out)
    have hsz2 : decide ((262144 : Int) < (u1.size : Int)) = false := decide_eq_false (by omega)
    clear hsz1 hqr hJ5
    go_wp2_with fail
    refine hSm.out.mono ?_
    rintro e w6 ⟨B, rfl, hB, hb6⟩
    obtain rfl : B = true := by first | exact hB.out.2 rfl | exact hB.out.2 trivial
    have hd6 : Below Wa.heap.size Wa w6 := hdC.trans (hb6.out.mono hdC.size)
    clear q0 q1 q2 q3 q4 q5 r0 r1 r2 r3 r4 r5 hb6 hSm hB
    have hs := hs9.out
    go_wp2_with fail
    refine (decode_any s hs _).mono ?_
    rintro e w7 ⟨v7, c7, rfl, ho7, hb7⟩
    have hd7 : Below Wa.heap.size Wa w7 := hd6.trans (hb7.out.mono hd6.size)
    clear hb7
    rcases ho7 with ⟨rfl, hI, hm7⟩ | ⟨rfl, -, rfl⟩
    case inr =>
      unfold zeroMl
      have hz := (Zoo.nil w7).newBox #[.slice none 0 0, .int .u64 0, .slice none 0 0, .slice none 0 0, .int .u64 0, .int .u64 0] 27
      have szw7 : Hid (∀ wr, Below w7.heap.size w7 wr → Below w7.heap.size w7 wr) := Lib.hid (fun _ h => h)
      generalize hMD : w7.heap.size = MD at hz szw7
      generalize hWd : w7.alloc (.cells #[.slice none 0 0, .int .u64 0, .slice none 0 0, .slice none 0 0, .int .u64 0, .int .u64 0] 27) = Wd at hz
      have hblk := (hz.box 0 rfl).1
      have hbel : Below MD w7 Wd := hMD ▸ hz.bel
      have hsze : MD ≤ Wd.heap.size := hMD ▸ hbel.size
      have hqz : Hid (∀ wr, Below Wd.heap.size Wd wr → wr.cell? ⟨MD, 0, none⟩ = some (.slice none 0 0) ∧ wr.cell? ⟨MD, 1, none⟩ = some (.int .u64 0) ∧ wr.cell? ⟨MD, 2, none⟩ = some (.slice none 0 0) ∧ wr.cell? ⟨MD, 3, none⟩ = some (.slice none 0 0) ∧ wr.cell? ⟨MD, 4, none⟩ = some (.int .u64 0) ∧ wr.cell? ⟨MD, 5, none⟩ = some (.int .u64 0)) := Lib.hid (fun wr h => by
        have k1 := iheap_below hblk h
        exact ⟨box_cell k1 0, box_cell k1 1, box_cell k1 2, box_cell k1 3, box_cell k1 4, box_cell k1 5⟩)
      have hbWMD : Hid (∀ wr, Below Wd.heap.size Wd wr → Below MD w7 wr) := Lib.hid (fun wr h => hbel.trans (h.mono hsze))
      clear hz szw7 hblk hbel hsze
      have hdD : Below Wa.heap.size Wa Wd := hd7.trans ((hbWMD.out Wd (Below.refl _ _)).mono (hMD ▸ hd7.size))
      obtain ⟨z0, z1, z2, z3, z4, z5⟩ := hqz.out _ (Below.refl _ _)
      have hSz := Lib.hid (sameMl_any _ _ (z_in Wd) (z_in Wd) z_sz z_sz)
      have hbF : Hid (∀ wr, Below Wd.heap.size Wd wr → Below MB W wr) := Lib.hid (fun wr h => hbW.out wr (hdD.trans (h.mono hdD.size)))
      clear hqz hbWMD hd7 hdD
      subst hWd
      go_wp2_with fail
      refine hSz.out.mono ?_
      rintro e w8 ⟨B, rfl, hB, hb8⟩
      obtain rfl : B = true := by first | exact hB.out.2 rfl | exact hB.out.2 trivial
      have hbG := Lib.hid (hbF.out _ hb8.out)
      clear hb8
      go_wp2_with fail
      go_ret
      exact ⟨rfl, hbG.out⟩
    have hsR := Lib.hid (imageR_sz (some s.data.toList))
    have hfm := Lib.hid (image_form hI.1 hI.2.1)
    have hrR := Lib.hid hI.2.2
    clear hI
    generalize (imageR (some s.data.toList)).1.2 = mR at hm7 hsR hfm hrR
    obtain ⟨ab7, cb7, nb7, ah7, ch7, as7, cs7, rfl⟩ := hm7.six
    have hJ7 : Hid (∀ wr, Below w7.heap.size w7 wr → MlIn wr (.agg #[.slice ab7 nb7 cb7, .int .u64 mR.nv, .slice ah7 mR.homes.length ch7, .slice as7 mR.seats.length cs7, .int .u64 mR.ns, .int .u64 mR.sweeps]) mR) := Lib.hid (fun wr h => hm7.below h)
    clear hm7
    have hz := (Zoo.nil w7).newBox #[.slice ab7 nb7 cb7, .int .u64 mR.nv, .slice ah7 mR.homes.length ch7, .slice as7 mR.seats.length cs7, .int .u64 mR.ns, .int .u64 mR.sweeps] 27
    have szw7 : Hid (∀ wr, Below w7.heap.size w7 wr → Below w7.heap.size w7 wr) := Lib.hid (fun _ h => h)
    generalize hMD : w7.heap.size = MD at hz szw7 hJ7
    generalize hWd : w7.alloc (.cells #[.slice ab7 nb7 cb7, .int .u64 mR.nv, .slice ah7 mR.homes.length ch7, .slice as7 mR.seats.length cs7, .int .u64 mR.ns, .int .u64 mR.sweeps] 27) = Wd at hz
    have hblk := (hz.box 0 rfl).1
    have hbel : Below MD w7 Wd := hMD ▸ hz.bel
    have hsze : MD ≤ Wd.heap.size := hMD ▸ hbel.size
    have hqz : Hid (∀ wr, Below Wd.heap.size Wd wr → wr.cell? ⟨MD, 0, none⟩ = some (.slice ab7 nb7 cb7) ∧ wr.cell? ⟨MD, 1, none⟩ = some (.int .u64 mR.nv) ∧ wr.cell? ⟨MD, 2, none⟩ = some (.slice ah7 mR.homes.length ch7) ∧ wr.cell? ⟨MD, 3, none⟩ = some (.slice as7 mR.seats.length cs7) ∧ wr.cell? ⟨MD, 4, none⟩ = some (.int .u64 mR.ns) ∧ wr.cell? ⟨MD, 5, none⟩ = some (.int .u64 mR.sweeps)) := Lib.hid (fun wr h => by
      have k1 := iheap_below hblk h
      exact ⟨box_cell k1 0, box_cell k1 1, box_cell k1 2, box_cell k1 3, box_cell k1 4, box_cell k1 5⟩)
    have hbWMD : Hid (∀ wr, Below Wd.heap.size Wd wr → Below MD w7 wr) := Lib.hid (fun wr h => hbel.trans (h.mono hsze))
    clear hz szw7 hblk hbel hsze
    have hdD : Below Wa.heap.size Wa Wd := hd7.trans ((hbWMD.out Wd (Below.refl _ _)).mono (hMD ▸ hd7.size))
    obtain ⟨z0, z1, z2, z3, z4, z5⟩ := hqz.out _ (Below.refl _ _)
    have hbF : Hid (∀ wr, Below Wd.heap.size Wd wr → Below MB W wr) := Lib.hid (fun wr h => hbW.out wr (hdD.trans (h.mono hdD.size)))
    clear hd7 hdD
    go_wp2_with fail
    refine (encode_any _ (hJ7.out _ (hbWMD.out Wd (Below.refl _ _))) hsR.out.1 (fun _ => hsR.out.2)).mono ?_
    rintro e w8 ⟨u8, c8, rfl, ho8, hb8⟩
    rcases ho8 with ⟨rfl, -, hu8⟩ | ⟨-, hn⟩
    case inr => exact absurd hrR.out hn
    obtain rfl : s = u8 := u_lit (by rw [hu8]; exact hfm.out)
    clear z0 z1 z2 z3 z4 z5 hu8 hfm
    obtain ⟨z0, z1, z2, z3, z4, z5⟩ := hqz.out _ hb8.out
    have hRt := Lib.hid (rightM_any _ (hJ7.out _ (hbWMD.out _ hb8.out)) hsR.out.1)
    go_wp2_with fail
    refine hRt.out.mono ?_
    rintro e w9 ⟨B, rfl, hB, hb9⟩
    obtain rfl : B = true := hB.out.2 hrR.out
    have hbG := Lib.hid (hbF.out _ (hb8.out.trans (hb9.out.mono hb8.out.size)))
    go_wp2_with fail
    go_ret
    exact ⟨rfl, hbG.out⟩
end Go.Proofs.YtpkaoiadjffjiaaGreat
