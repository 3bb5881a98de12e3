/- digits, of LinesBack, walked. -/
import Derived.Test.YtkocnldkimjonaaDoorLinP
import Derived.Deep.RegionWith
namespace Go.Proofs.YtkocnldkimjonaaDoor
open Go.RowKit

theorem byte_48 (m : Nat) : 48 + UInt8.ofNat m = UInt8.ofNat (48 + m) := by rw [UInt8.ofNat_add]; rfl
theorem decDigits_step (u : Nat) (h : ¬ u < 10) : Lib.decDigits u = Lib.decDigits (u / 10) ++ [UInt8.ofNat (48 + u % 10)] := by rw [Lib.decDigits, dif_neg h]
set_option maxHeartbeats 1000000 in
theorem digitsN_any : ∀ (n : Nat), n ≤ 4194304 → ∀ w : World, Calls Tryd.prog 18 #[.int .i64 n] w (RetStr (Lib.decDigits n) w) := by
  intro n
  induction n using Nat.strongRecOn with
  | ind n ih =>
    intro hn w
    by_cases hlt : n < 10
    · have kb := run_conv_one (P := Tryd.prog) 48 9 5 Tryd.underlying48 Tryd.underlying5 Tryd.underlying9
      clear ih
      go_enter Tryd.func18, Tryd.ntmps18
      go_wp2_with fail
      go_ret
      exact ⟨_, rfl, Lib.hid (Lib.decDigits_one hlt).symm, (Below.refl _ w).alloc (Nat.le_refl _) _⟩
    · have hih := ih (n / 10) (by omega) (by omega)
      rw [show ((n / 10 : Nat) : Int) = (n : Int) / 10 by omega] at hih
      replace hih := Lib.hid hih
      clear ih
      go_enter Tryd.func18, Tryd.ntmps18
      go_wp2_with fail
      have q1 : (n : Int).tdiv 10 = (n : Int) / 10 := Int.tdiv_eq_ediv_of_nonneg (by omega)
      have q2 : (n : Int).tmod 10 = (n : Int) % 10 := Int.tmod_eq_emod_of_nonneg (by omega)
      have q3 : IntKind.i64.wrap ((n : Int) / 10) = (n : Int) / 10 := IntWalk.i64_in _ (by omega)
      have q4 : IntKind.i64.wrap ((n : Int) % 10) = (n : Int) % 10 := IntWalk.i64_in _ (by omega)
      have q5 : IntKind.i64.wrap (48 + (n : Int) % 10) = 48 + (n : Int) % 10 := IntWalk.i64_in _ (by omega)
      have q6 : IntKind.u8.wrap (48 + (n : Int) % 10) = 48 + (n : Int) % 10 := by rw [IntKind.wrap_u8]; omega
      have kb := run_conv_one (P := Tryd.prog) 48 9 5 Tryd.underlying48 Tryd.underlying5 Tryd.underlying9
      have hd : (48 + (n : Int) % 10 : Int) = ((UInt8.ofNat (48 + n % 10)).toNat : Int) := by
        rw [UInt8.toNat_ofNat']; omega
      replace hd := Lib.hid hd
      have hds := decDigits_step n hlt
      replace hds := Lib.hid hds
      have kc : ∀ w1 : World, w1.cell? ⟨w.heap.size, 0, none⟩ = some (.int .u8 (48 + (n : Int) % 10)) → (convert 48 9 (.slice (some ⟨w.heap.size, 0, none⟩) 1 1)).run Tryd.prog w1 = .ok (.string ⟨#[UInt8.ofNat (48 + n % 10)]⟩) w1 := fun w1 h => run_conv_cell (P := Tryd.prog) 48 9 5 Tryd.underlying48 Tryd.underlying5 Tryd.underlying9 w1 w.heap.size 1 _ _ hd.out h
      have kd := kc (w.alloc (.cells #[.int .u8 (48 + (n : Int) % 10)] 5)).drew (by simp)
      have hA : Calls Tryd.prog 18 #[.int .i64 ((n : Int) / 10)] (w.alloc (.cells #[.int .u8 (48 + (n : Int) % 10)] 5)).drew (fun e w' => RetStr (Lib.decDigits (n / 10)) (w.alloc (.cells #[.int .u8 (48 + (n : Int) % 10)] 5)).drew e w' ∧ (convert 48 9 (.slice (some ⟨w.heap.size, 0, none⟩) 1 1)).run Tryd.prog w' = .ok (.string ⟨#[UInt8.ofNat (48 + n % 10)]⟩) w') := (hih.out _).mono fun e w' h => ⟨h, kc w' (by
        obtain ⟨_, _, _, hb⟩ := h
        exact (hb.cell (p := ⟨w.heap.size, 0, none⟩) (by simp)).trans (by simp))⟩
      replace hA := Lib.hid hA
      clear kc
      have hus : ∀ u : ByteArray, Hid (u.data.toList = Lib.decDigits (n / 10)) → u.size ≤ 20 := fun u hu => by
        rw [size_len, hu.out, Lib.decDigits_length]; exact Lib.nDigits_le20 _ (by omega)
      replace hus := Lib.hid hus
      go_region_with (first
        | (go_at_call 18; (with_reducible refine hA.out.mono ?_); rintro e w1 ⟨⟨u, rfl, hu, hb1⟩, hcv⟩; have hu20 := hus.out u hu; replace hb1 := Lib.hid hb1)
        | (go_at_call 18; refine (hih.out _).mono ?_; rintro e w1 ⟨u, rfl, hu, hb1⟩; have hu20 := hus.out u hu; replace hb1 := Lib.hid hb1))
      all_goals
        clear hih q1 q2 q3 q4 q5 q6 kb
        go_wp2_with fail
        go_ret
        refine ⟨_, rfl, Lib.hid ?_, ?_⟩
        · show (u ++ ⟨#[48 + UInt8.ofNat (n % 10)]⟩).data.toList = _
          rw [toList_app, hu.out, hds.out, byte_48]
        · first
            | exact ((((Below.refl _ w).alloc (Nat.le_refl _) _).drew).trans (hb1.out.mono (by simp)))
            | exact ((((Below.refl _ w).drew).trans (hb1.out.mono (by simp))).alloc (by have := hb1.out.size; simp at this; omega) _)
end Go.Proofs.YtkocnldkimjonaaDoor
