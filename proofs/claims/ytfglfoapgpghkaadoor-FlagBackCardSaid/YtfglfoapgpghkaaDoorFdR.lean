/- The document's Print: walked. -/
import Derived.Test.YtfglfoapgpghkaaDoorFdQ
import Derived.Lib.Join
namespace Go.Proofs.YtfglfoapgpghkaaDoor
open Go.RowKit

/-- the bytes of a list, one more for each text -/
def tot (l : List (List UInt8)) : Nat := l.flatten.length + l.length
theorem tot_nil : tot [] = 0 := rfl
theorem tot_cons (x : List UInt8) (r : List (List UInt8)) : tot (x :: r) = x.length + 1 + tot r := by simp [tot]; omega
theorem tot_take (l : List (List UInt8)) (k : Nat) : tot (l.take k) ≤ tot l := by
  have h : tot (l.take k ++ l.drop k) = tot (l.take k) + tot (l.drop k) := by simp only [tot, List.flatten_append, List.length_append]; omega
  rw [List.take_append_drop] at h; omega
theorem tot_mem {l : List (List UInt8)} {x : List UInt8} (h : x ∈ l) : x.length + 1 ≤ tot l := by
  induction l with
  | nil => cases h
  | cons y r ih =>
    rw [tot_cons]
    rcases List.mem_cons.1 h with rfl | h
    · omega
    · have := ih h; omega
theorem joinTail_app (sep : List UInt8) (a b : List (List UInt8)) : Lib.joinTail sep (a ++ b) = Lib.joinTail sep a ++ Lib.joinTail sep b := by simp [Lib.joinTail]
theorem join_tail_len (r : List (List UInt8)) : (Lib.joinTail [32] r).length = tot r := by
  induction r with
  | nil => rfl
  | cons x r ih =>
    have e : Lib.joinTail [32] (x :: r) = 32 :: x ++ Lib.joinTail [32] r := by simp [Lib.joinTail]
    rw [e, tot_cons]; simp [ih]; omega
theorem join_len (l : List (List UInt8)) : (Lib.join l [32]).length ≤ tot l := by
  cases l with
  | nil => simp [Lib.join_nil]
  | cons x r => rw [Lib.join_cons, List.length_append, join_tail_len, tot_cons]; omega
theorem join_snoc (a : List (List UInt8)) (x : List UInt8) (h : a ≠ []) : Lib.join (a ++ [x]) [32] = Lib.join a [32] ++ [32] ++ x := by
  cases a with
  | nil => exact absurd rfl h
  | cons y r => rw [List.cons_append, Lib.join_cons, Lib.join_cons, joinTail_app]; simp [Lib.joinTail]
theorem print_step0 {l : List (List UInt8)} (h : 0 < l.length) : Lib.join (l.take 1) [32] = l[0] := by
  rw [List.take_succ_eq_append_getElem h]; simp [Lib.join_one]
theorem print_step {l : List (List UInt8)} {k : Nat} (hk : k < l.length) (h0 : 0 < k) : Lib.join (l.take (k + 1)) [32] = Lib.join (l.take k) [32] ++ [32] ++ l[k] := by
  rw [List.take_succ_eq_append_getElem hk]
  exact join_snoc _ _ (by
    intro e
    have h3 : min k l.length = 0 := by
      have := congrArg List.length e
      rwa [List.length_take] at this
    omega)
set_option maxRecDepth 100000 in
set_option maxHeartbeats 2000000 in
theorem refPrint_any (v : Value) (l : List (List UInt8)) (w : World) (hr : Rd w v l.length (l.map encStr)) (ht : tot l ≤ 1048576) :
    Calls Tryd.prog 9 #[v] w (RetStr (printL l) w) := by
  have hr0 := Lib.hid hr
  obtain ⟨ao, cap, rfl, -⟩ := hr
  have hll : l.length ≤ 1048576 := by unfold tot at ht; omega
  go_enter Tryd.func9, Tryd.ntmps9
  go_wp2_with fail
  go_loop [3, 4] (fun vs vk => ∃ (k : Nat) (o : ByteArray), vk = .int .i64 k ∧ vs = .string o ∧ k ≤ l.length ∧ o.size ≤ 1048577 ∧ Hid (o.data.toList = 40 :: Lib.join (l.take k) [32])) (fun _ vk => l.length - (intOf vk).toNat)
  case atStart => exact ⟨0, _, rfl, rfl, Nat.zero_le _, by decide, Lib.hid rfl⟩
  case round =>
    obtain ⟨k, o, rfl, rfl, hk, hos, ho⟩ := hrel
    by_cases hlt : k < l.length
    · obtain ⟨b, off, hao, hbl, hcell⟩ := hr0.out.at_pos (by omega)
      subst hao
      have hcw : w.cell? ⟨b, off + k, none⟩ = some (.string (mkB l[k])) := rd_cell hcell hlt
      have hXl := tot_mem (List.getElem_mem hlt)
      have hXs : (mkB l[k]).size ≤ 1048576 := by show l[k].length ≤ _; omega
      have hjl : (Lib.join (l.take (k + 1)) [32]).length ≤ 1048576 := Nat.le_trans (join_len _) (Nat.le_trans (tot_take _ _) ht)
      rcases Nat.eq_zero_or_pos k with h0 | h0
      · subst h0
        have hst : Hid ((o ++ mkB l[0]).data.toList = 40 :: Lib.join (l.take (0 + 1)) [32]) := Lib.hid (by
          rw [toList_app, ho.out, List.take_zero, Lib.join_nil, mkB_list, print_step0 hlt]; rfl)
        have hsz : (o ++ mkB l[0]).size ≤ 1048577 := by rw [size_len, hst.out]; simp only [List.length_cons]; omega
        have hcw0 : w.cell? ⟨b, off, none⟩ = some (.string (mkB l[0])) := hcw
        generalize mkB l[0] = X at hcw0 hst hsz hXs hcw
        clear hXl hjl hcell
        go_wp2_with fail
        go_round
        case rel => exact ⟨1, _, by go_num, rfl, by omega, hsz, hst⟩
        case measure => simp [intOf]; omega
      · have hst : Hid ((o ++ ⟨#[32]⟩ ++ mkB l[k]).data.toList = 40 :: Lib.join (l.take (k + 1)) [32]) := Lib.hid (by
          rw [toList_app, toList_app, ho.out, mkB_list, print_step hlt h0]; simp)
        have hsz : (o ++ ⟨#[32]⟩ ++ mkB l[k]).size ≤ 1048577 := by rw [size_len, hst.out]; simp only [List.length_cons]; omega
        generalize mkB l[k] = X at hst hsz hXs hcw
        clear hXl hjl hcell
        go_wp2_with fail
        go_round
        case rel => exact ⟨k + 1, _, by go_num, rfl, by omega, hsz, hst⟩
        case measure => simp [intOf]; omega
    · obtain rfl : k = l.length := by omega
      rw [List.take_length] at ho
      go_wp2_with fail
      go_ret
      refine ⟨_, rfl, Lib.hid ?_, Below.refl _ _⟩
      rw [toList_app, ho.out, printL]
      rfl
end Go.Proofs.YtfglfoapgpghkaaDoor
