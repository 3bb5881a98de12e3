/- 'Upper', of the program and of the document: each byte in great letters; new memory alone is written. -/
import Derived.Test.YtmlmkcpdgcojlaaDoorKit
import Derived.Test.YtmlmkcpdgcojlaaDoorShelf
namespace Go.Proofs.YtmlmkcpdgcojlaaDoor
open Go.RowKit

def upB (c : UInt8) : UInt8 := if 97 ≤ c.toNat ∧ c.toNat ≤ 122 then c - 32 else c
def upL (l : List UInt8) : List UInt8 := l.map upB
theorem upL_snoc (l : List UInt8) (c : UInt8) : upL (l ++ [c]) = upL l ++ [upB c] := by simp [upL]
theorem upB_yes (c : UInt8) (h1 : 97 ≤ (c.toNat : Int)) (h2 : (c.toNat : Int) ≤ 122) : ((upB c).toNat : Int) = c.toNat - 32 := by
  have : (c - 32).toNat = c.toNat - 32 := UInt8.toNat_sub_of_le _ _ (by show 32 ≤ _; rw [UInt8.le_iff_toNat_le]; show 32 ≤ c.toNat; omega)
  rw [upB, if_pos (by omega), this]; omega
theorem upB_no (c : UInt8) (h : ¬ (97 ≤ (c.toNat : Int) ∧ (c.toNat : Int) ≤ 122)) : upB c = c := by
  rw [upB, if_neg (by omega)]

theorem upB_ref (c : UInt8) (h1 : 97 ≤ (c.toNat : Int)) (h2 : (c.toNat : Int) ≤ 122) : UInt8.ofNat (c.toNat - 97) + 65 = upB c := by
  refine UInt8.toNat_inj.1 ?_
  have := upB_yes c h1 h2
  simp only [UInt8.toNat_add, UInt8.toNat_ofNat']
  have e : (65 : UInt8).toNat = 65 := rfl
  rw [e]; omega
theorem upL_step (s o : ByteArray) (k : Nat) (hk : k < s.size) (d : UInt8) (hp : Hid (o.data.toList = upL (s.data.toList.take k))) (hd : d = upB s[k]) : Hid ((o ++ ⟨#[d]⟩).data.toList = upL (s.data.toList.take (k + 1))) := by
  show _ = _
  rw [toList_app, hp.out, take_snoc s k hk, upL_snoc, hd]
theorem size_app1 {o : ByteArray} {k : Nat} (d : UInt8) (h : o.size ≤ k) : (o ++ ⟨#[d]⟩).size ≤ k + 1 := by
  rw [ByteArray.size_append]; show o.size + 1 ≤ _; omega
theorem upL_length (l : List UInt8) : (upL l).length = l.length := by simp [upL]
/-- behind k rounds: the first k in great letters, the rest as they were -/
def upTo (l : List UInt8) (k : Nat) : List UInt8 := upL (l.take k) ++ l.drop k
theorem upTo_length (l : List UInt8) (k : Nat) : (upTo l k).length = l.length := by simp [upTo, upL]; omega
theorem upTo_at (s : ByteArray) (k : Nat) (h : k < s.size) : (upTo s.data.toList k).getD k 0 = s[k] := by
  rw [upTo, drop_cons s k h]
  simp [List.getD, upL, show min k s.size = k from by omega]
theorem upTo_no (s : ByteArray) (k : Nat) (h : k < s.size) (hn : upB s[k] = s[k]) : upTo s.data.toList (k + 1) = upTo s.data.toList k := by
  rw [upTo, upTo, take_snoc s k h, drop_cons s k h, upL_snoc, hn]; simp
theorem upTo_yes (s : ByteArray) (k : Nat) (h : k < s.size) : upTo s.data.toList (k + 1) = (upTo s.data.toList k).set k (upB s[k]) := by
  have hl : k < s.data.toList.length := h
  rw [upTo, upTo, take_snoc s k h, drop_cons s k h, upL_snoc, List.set_append_right _ _ (by rw [upL_length, List.length_take]; omega)]
  rw [upL_length, List.length_take, Nat.min_eq_left (by omega)]
  simp
theorem upTo_all (s : ByteArray) : upTo s.data.toList s.size = upL s.data.toList := by
  rw [upTo, take_all, drop_all s (Nat.le_refl _), List.append_nil]

set_option maxHeartbeats 1000000 in
theorem upper_any (s : ByteArray) (hs : s.size ≤ maxLen) (w : World) :
    Calls Tryd.prog 30 #[.string s] w fun e w' => e = .returned (.string ⟨(upL s.data.toList).toArray⟩) ∧ Below w.heap.size w w' := by
  unfold maxLen at hs
  have kc := fun (w : World) => Lib.run_convert_string_bytes (P := Tryd.prog) w 9 69 5 s Tryd.underlying9 Tryd.underlying69 Tryd.underlying5
  go_enter Tryd.func30, Tryd.ntmps30
  go_wp2_with fail
  clear kc
  go_loopw [10] (fun i wr => ∃ (k : Nat), k ≤ s.size ∧ i = .int .i64 k ∧ ByteRow wr w.heap.size 5 (upTo s.data.toList k) ∧ Below w.heap.size w wr) (fun i _ => s.size - (intOf i).toNat)
  case atStart => exact ⟨0, Nat.zero_le _, rfl, byteRow_conv _ _ _, below_conv _ _ _⟩
  case round =>
    obtain ⟨k, hk, rfl, hr, hb⟩ := hrel
    by_cases hlt : k < s.size
    · have hc := hr.cell k (by rw [upTo_length]; exact hlt)
      have hf := hr.free k (by rw [upTo_length]; exact hlt)
      rw [upTo_at s k hlt] at hc
      go_wp2_with fail
      · exact ⟨⟨k + 1, by omega, by go_num, by rw [upTo_yes s k hlt]; exact hr.set k (by rw [upTo_length]; exact hlt) _ _ (by rw [upB_yes _ (by assumption) (by assumption)]), hb.setCell (Nat.le_refl _) _⟩, by simp [intOf]; omega⟩
      · exact ⟨⟨k + 1, by omega, by go_num, by rw [upTo_no s k hlt (upB_no _ (by omega))]; exact hr, hb⟩, by simp [intOf]; omega⟩
      · exact ⟨⟨k + 1, by omega, by go_num, by rw [upTo_no s k hlt (upB_no _ (by omega))]; exact hr, hb⟩, by simp [intOf]; omega⟩
    · obtain rfl : k = s.size := by omega
      have kb := hr.back (P := Tryd.prog) 69 9 s.size (grownCap w s.size 0 5) Tryd.underlying69 Tryd.underlying5 Tryd.underlying9 (by rw [upTo_length, size_len])
      rw [upTo_all] at kb
      go_wp2_with fail
      go_ret
      exact ⟨rfl, hb⟩
end Go.Proofs.YtmlmkcpdgcojlaaDoor
