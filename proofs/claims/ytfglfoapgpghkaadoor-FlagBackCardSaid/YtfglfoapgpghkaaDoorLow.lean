/- Small letters: 'small' of the layer flag; new memory alone is written. -/
import Derived.Test.YtfglfoapgpghkaaDoorUpper
namespace Go.Proofs.YtfglfoapgpghkaaDoor
open Go.RowKit

def lowB (c : UInt8) : UInt8 := if 65 ≤ c.toNat ∧ c.toNat ≤ 90 then c + 32 else c
def lowL (l : List UInt8) : List UInt8 := l.map lowB
theorem lowL_snoc (l : List UInt8) (c : UInt8) : lowL (l ++ [c]) = lowL l ++ [lowB c] := by simp [lowL]
theorem lowB_yes (c : UInt8) (h1 : 65 ≤ (c.toNat : Int)) (h2 : (c.toNat : Int) ≤ 90) : ((lowB c).toNat : Int) = c.toNat + 32 := by
  rw [lowB, if_pos (by omega), UInt8.toNat_add]
  show (((c.toNat + 32) % 256 : Nat) : Int) = _
  omega
theorem lowB_no (c : UInt8) (h : ¬ (65 ≤ (c.toNat : Int) ∧ (c.toNat : Int) ≤ 90)) : lowB c = c := by
  rw [lowB, if_neg (by omega)]

theorem lowB_ref (c : UInt8) (h1 : 65 ≤ (c.toNat : Int)) (h2 : (c.toNat : Int) ≤ 90) : UInt8.ofNat (c.toNat - 65) + 97 = lowB c := by
  refine UInt8.toNat_inj.1 ?_
  have := lowB_yes c h1 h2
  simp only [UInt8.toNat_add, UInt8.toNat_ofNat']
  have e : (97 : UInt8).toNat = 97 := rfl
  rw [e]; omega
theorem lowL_step (s o : ByteArray) (k : Nat) (hk : k < s.size) (d : UInt8) (hp : Hid (o.data.toList = lowL (s.data.toList.take k))) (hd : d = lowB s[k]) : Hid ((o ++ ⟨#[d]⟩).data.toList = lowL (s.data.toList.take (k + 1))) := by
  show _ = _
  rw [toList_app, hp.out, take_snoc s k hk, lowL_snoc, hd]
theorem lowL_length (l : List UInt8) : (lowL l).length = l.length := by simp [lowL]
/-- behind k rounds: the first k in great letters, the rest as they were -/
def lowTo (l : List UInt8) (k : Nat) : List UInt8 := lowL (l.take k) ++ l.drop k
theorem lowTo_length (l : List UInt8) (k : Nat) : (lowTo l k).length = l.length := by simp [lowTo, lowL]; omega
theorem lowTo_at (s : ByteArray) (k : Nat) (h : k < s.size) : (lowTo s.data.toList k).getD k 0 = s[k] := by
  rw [lowTo, drop_cons s k h]
  simp [List.getD, lowL, show min k s.size = k from by omega]
theorem lowTo_no (s : ByteArray) (k : Nat) (h : k < s.size) (hn : lowB s[k] = s[k]) : lowTo s.data.toList (k + 1) = lowTo s.data.toList k := by
  rw [lowTo, lowTo, take_snoc s k h, drop_cons s k h, lowL_snoc, hn]; simp
theorem lowTo_yes (s : ByteArray) (k : Nat) (h : k < s.size) : lowTo s.data.toList (k + 1) = (lowTo s.data.toList k).set k (lowB s[k]) := by
  have hl : k < s.data.toList.length := h
  rw [lowTo, lowTo, take_snoc s k h, drop_cons s k h, lowL_snoc, List.set_append_right _ _ (by rw [lowL_length, List.length_take]; omega)]
  rw [lowL_length, List.length_take, Nat.min_eq_left (by omega)]
  simp
theorem lowTo_all (s : ByteArray) : lowTo s.data.toList s.size = lowL s.data.toList := by
  rw [lowTo, take_all, drop_all s (Nat.le_refl _), List.append_nil]

set_option maxHeartbeats 1000000 in
theorem small_any (s : ByteArray) (hs : s.size ≤ maxLen) (w : World) :
    Calls Tryd.prog 27 #[.string s] w fun e w' => e = .returned (.string ⟨(lowL s.data.toList).toArray⟩) ∧ Below w.heap.size w w' := by
  unfold maxLen at hs
  have kc := fun (w : World) => Lib.run_convert_string_bytes (P := Tryd.prog) w 9 50 5 s Tryd.underlying9 Tryd.underlying50 Tryd.underlying5
  go_enter Tryd.func27, Tryd.ntmps27
  go_wp2_with fail
  clear kc
  go_loopw [10] (fun i wr => ∃ (k : Nat), k ≤ s.size ∧ i = .int .i64 k ∧ ByteRow wr w.heap.size 5 (lowTo s.data.toList k) ∧ Below w.heap.size w wr) (fun i _ => s.size - (intOf i).toNat)
  case atStart => exact ⟨0, Nat.zero_le _, rfl, byteRow_conv _ _ _, below_conv _ _ _⟩
  case round =>
    obtain ⟨k, hk, rfl, hr, hb⟩ := hrel
    by_cases hlt : k < s.size
    · have hc := hr.cell k (by rw [lowTo_length]; exact hlt)
      have hf := hr.free k (by rw [lowTo_length]; exact hlt)
      rw [lowTo_at s k hlt] at hc
      go_wp2_with fail
      · exact ⟨⟨k + 1, by omega, by go_num, by rw [lowTo_yes s k hlt]; exact hr.set k (by rw [lowTo_length]; exact hlt) _ _ (by rw [lowB_yes _ (by assumption) (by assumption)]), hb.setCell (Nat.le_refl _) _⟩, by simp [intOf]; omega⟩
      · exact ⟨⟨k + 1, by omega, by go_num, by rw [lowTo_no s k hlt (lowB_no _ (by omega))]; exact hr, hb⟩, by simp [intOf]; omega⟩
      · exact ⟨⟨k + 1, by omega, by go_num, by rw [lowTo_no s k hlt (lowB_no _ (by omega))]; exact hr, hb⟩, by simp [intOf]; omega⟩
    · obtain rfl : k = s.size := by omega
      have kb := hr.back (P := Tryd.prog) 50 9 s.size (grownCap w s.size 0 5) Tryd.underlying50 Tryd.underlying5 Tryd.underlying9 (by rw [lowTo_length, size_len])
      rw [lowTo_all] at kb
      go_wp2_with fail
      go_ret
      exact ⟨rfl, hb⟩
end Go.Proofs.YtfglfoapgpghkaaDoor
