/- The small functions of LinesBack, walked: plain, digits. -/
import Derived.Test.YtkocnldkimjonaaDoorLinO
import Derived.Deep.RegionWith
namespace Go.Proofs.YtkocnldkimjonaaDoor
open Go.RowKit

theorem bne_tt {c m : UInt8} {z : Int} (h : c ≠ m) (hz : z = m.toNat) : ((c.toNat : Int) != z) = true := by
  subst hz
  cases hx : ((c.toNat : Int) != (m.toNat : Int))
  · simp at hx
    exact absurd (byte_ext hx) h
  · rfl
theorem bne_ff {c m : UInt8} {z : Int} (h : c = m) (hz : z = m.toNat) : ((c.toNat : Int) != z) = false := by subst h hz; simp
theorem plainL_snoc (s : ByteArray) (k : Nat) (h : k < s.size) : plainL (s.data.toList.take (k + 1)) = plainL (s.data.toList.take k) ++ (if plainB s[k] then [s[k]] else []) := by
  rw [take_snoc s k h, plainL, List.filter_append]
  congr 1
  cases h2 : plainB s[k] <;> simp [h2]
theorem plainL_len (l : List UInt8) : (plainL l).length ≤ l.length := List.length_filter_le _ _
set_option maxHeartbeats 1000000 in
theorem plain_any (s : ByteArray) (hs : s.size ≤ 1048576) (w : World) :
    Calls Tryd.prog 17 #[.string s] w (RetStr (plainL s.data.toList) w) := by
  go_enter Tryd.func17, Tryd.ntmps17
  go_wp2_with fail
  go_loopw [3, 4] (fun v vi wr => ∃ k : Nat, vi = .int .i64 k ∧ k ≤ s.size ∧ Hid (OwnBytes wr w.heap.size 5 v (plainL (s.data.toList.take k))) ∧ Hid (Below w.heap.size w wr)) (fun _ vi _ => s.size - (intOf vi).toNat)
  case atStart => exact ⟨0, rfl, Nat.zero_le _, Lib.hid (OwnBytes.nil _ _ _), Lib.hid (Below.refl _ _)⟩
  case round =>
    obtain ⟨k, rfl, hk, hown, hb⟩ := hrel
    by_cases hlt : k < s.size
    · have hsn := plainL_snoc s k hlt
      have hl : (plainL (s.data.toList.take k)).length ≤ 1048576 := by
        have := plainL_len (s.data.toList.take k)
        rw [List.length_take] at this; omega
      have hsz := hb.out.size
      cases hp : plainB s[k]
      · rw [hp] at hsn
        replace hsn := Lib.hid (hsn.trans (List.append_nil _))
        by_cases e13 : s[k] = 13
        case' pos => have t13 : ((s[k].toNat : Int) != 13) = false := bne_ff e13 rfl
        case' neg =>
          have t13 : ((s[k].toNat : Int) != 13) = true := bne_tt e13 rfl
          by_cases e10 : s[k] = 10
          case' pos => have t10 : ((s[k].toNat : Int) != 10) = false := bne_ff e10 rfl
          case' neg =>
            have t10 : ((s[k].toNat : Int) != 10) = true := bne_tt e10 rfl
            by_cases e123 : s[k] = 123
            case' pos => have t123 : ((s[k].toNat : Int) != 123) = false := bne_ff e123 rfl
            case' neg =>
              have t123 : ((s[k].toNat : Int) != 123) = true := bne_tt e123 rfl
              have e125 : s[k] = 125 := by
                by_cases h : s[k] = 125
                · exact h
                · exfalso
                  rw [plainB] at hp
                  simp [e13, e10, e123, h] at hp
              have t125 : ((s[k].toNat : Int) != 125) = false := bne_ff e125 rfl
        all_goals
          clear hp
          try clear e13
          try clear e10
          try clear e123
          try clear e125
          go_wp2_with fail
          go_roundw
          case rel => exact ⟨k + 1, by go_num, by omega, Lib.hid (by rw [hsn.out]; exact hown.out), hb⟩
          case measure => simp [intOf]; omega
      · rw [hp] at hsn
        replace hsn := Lib.hid hsn
        simp only [plainB, Bool.and_eq_true, bne_iff_ne] at hp
        obtain ⟨e13, e10, e123, e125⟩ := hp
        have t13 : ((s[k].toNat : Int) != 13) = true := bne_tt e13 rfl
        have t10 : ((s[k].toNat : Int) != 10) = true := bne_tt e10 rfl
        have t123 : ((s[k].toNat : Int) != 123) = true := bne_tt e123 rfl
        have t125 : ((s[k].toNat : Int) != 125) = true := bne_tt e125 rfl
        clear e13 e10 e123 e125
        go_wp2_with (at_builtin; refine wpList_append_byte rfl (.tmp 33) (.tmp 37) 48 rfl w.heap.size 5 Tryd.underlying48 byte_info u3 _ wr.heap.size _ s[k] rfl rfl (hown.out.alloc _) (by simp) rfl (by omega) (by simp; omega) ?_)
        intro v' w' ho hg
        have hb' := Lib.hid (below_grown (hb.out.alloc hb.out.size _) hg (by simp; omega) (hown.out.alloc _))
        replace ho := Lib.hid ho
        clear hg
        go_wp2_with fail
        go_roundw
        case rel => exact ⟨k + 1, by go_num, by omega, Lib.hid (by rw [hsn.out]; exact ho.out), hb'⟩
        case measure => simp [intOf]; omega
    · obtain rfl : k = s.size := by omega
      rw [take_all] at hown
      have cv := hown.out.back (P := Tryd.prog) 48 9 Tryd.underlying48 Tryd.underlying5 Tryd.underlying9
      go_wp2_with fail
      go_ret
      exact ⟨_, rfl, Lib.hid rfl, hb.out⟩
theorem run_conv_cell {P : Program} (src dst e : TypeId) (hs : P.underlying src = some (.slice e)) (he : P.underlying e = some (.int .u8)) (hd : P.underlying dst = some .string) (w : World) (g c : Nat) (d : UInt8) (n : Int) (hn : n = d.toNat) (hc : w.cell? ⟨g, 0, none⟩ = some (.int .u8 n)) :
    (convert src dst (.slice (some ⟨g, 0, none⟩) 1 c)).run P w = .ok (.string ⟨#[d]⟩) w := by
  subst hn
  exact run_convert_bytes_back (P := P) w src dst e ⟨g, 0, none⟩ c [d] hs he hd (fun j hj => by
    match j, hj with
    | 0, _ => simpa [Addr.add] using hc)
end Go.Proofs.YtkocnldkimjonaaDoor
