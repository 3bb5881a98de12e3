/- Print; what every right program answers: alive (as XFlG, without its law). -/
import Derived.Test.YtfglfoapgpghkaaDoorFlF
namespace Go.Proofs.YtfglfoapgpghkaaDoor
open Go.RowKit

def printL (l : List (List UInt8)) : List UInt8 := 40 :: (Lib.join l [32] ++ [41])
set_option maxHeartbeats 1000000 in
theorem print_any (v : Value) (l : List (List UInt8)) (w : World) (hr : Rd w v l.length (l.map encStr)) (hl : l.length ≤ 140737488355328) (hj : (Lib.join l [32]).length ≤ 140737488355328) :
    Calls Tryd.prog 8 #[v] w (RetStr (printL l) w) := by
  have hjoin : Calls Tryd.prog 17 #[v, .string ⟨#[32]⟩] w fun e w' => ∃ u : ByteArray, e = .returned (.string u) ∧ Hid (u.data.toList = Lib.join l [32]) ∧ Hid (u.size ≤ 140737488355328) ∧ Hid (Below w.heap.size w w') := by
    obtain ⟨ao, cap, rfl, h⟩ := hr
    rcases h with h | ⟨b, o, rfl, hb, hle, hc⟩
    · obtain rfl := List.eq_nil_of_length_eq_zero h
      exact (Tryd.strings_Join_none ao cap ⟨#[32]⟩ w).mono fun _ _ ⟨he, hw⟩ => ⟨_, he, Lib.hid rfl, Lib.hid (Nat.zero_le _), Lib.hid (by rw [hw]; exact Below.refl _ _)⟩
    · have e : (l.map mkB).map (·.data.toList) = l := by rw [List.map_map]; exact List.map_id' l
      have h := Tryd.strings_Join b o cap (l.map mkB) ⟨#[32]⟩ w (fun j x hx => by
        have hj' : j < l.length := by
          have := (List.getElem?_eq_some_iff.1 hx).1
          simpa using this
        rw [List.getElem?_map, List.getElem?_eq_getElem hj'] at hx
        have hx' : mkB l[j] = x := by simpa using hx
        rw [← hx']
        exact rd_cell hc hj') hb (by simpa using hl) (by simpa using hle) (by rw [e]; exact hj)
      rw [e, List.length_map] at h
      exact h.mono fun _ _ ⟨he, hb⟩ => ⟨_, he, Lib.hid rfl, Lib.hid (by rw [size_mk]; exact hj), Lib.hid hb⟩
  replace hjoin := Lib.hid hjoin
  go_enter Tryd.func8, Tryd.ntmps8
  go_wp2_with fail
  refine hjoin.out.mono ?_
  rintro e w1 ⟨u, rfl, hu, hus, hb⟩
  have hsz := hus.out
  go_wp2_with fail
  go_ret
  refine ⟨_, rfl, Lib.hid ?_, hb.out⟩
  rw [toList_app, toList_app, hu.out]
  rfl
theorem owns_emptyT (w : World) (B : Nat) (hB : B ≤ w.heap.size) : OwnT (w.alloc (.cells #[] 9)) B (.slice (some ⟨w.heap.size, 0, none⟩) 0 0) [] :=
  ⟨rfl, .inr ⟨w.heap.size, 0, #[], rfl, hB, heap_alloc_new w _, Nat.le_refl _, by unfold maxLen; omega, rfl, rfl⟩⟩
def aliveIn : List (List UInt8) := [[98], [92, 68, 82, 65, 70, 84], [97], [66]]
theorem alive_canon : canonL [92, 115, 101, 101, 110] = some [92, 83, 101, 101, 110] := by kernel_rfl
theorem alive_make : makeCode aliveIn = 0 ∧ makeSet aliveIn = [[92, 68, 114, 97, 102, 116], [97], [98]] := ⟨by kernel_rfl, by kernel_rfl⟩
theorem alive_print : printL [[92, 68, 114, 97, 102, 116], [97], [98]] = [40, 92, 68, 114, 97, 102, 116, 32, 97, 32, 98, 41] := by kernel_rfl
theorem small_size (l : List UInt8) (h : l.length ≤ 100) : (mkB l).size ≤ maxLen := by
  show l.length ≤ _
  unfold maxLen; omega
set_option maxRecDepth 100000 in
set_option maxHeartbeats 1000000 in
theorem alive_any (w : World) : Calls Tryd.prog 7 #[] w fun e w' => e = .returned (.bool true) ∧ Below w.heap.size w w' := by
  have hcan := Lib.hid (canon_any (mkB [92, 115, 101, 101, 110]) (small_size _ (by decide)) w)
  go_enter Tryd.func7, Tryd.ntmps7
  go_wp2_with fail
  refine hcan.out.mono ?_
  rintro e w1 ⟨u, ok, rfl, hu, b1⟩
  rw [mkB_list, alive_canon] at hu
  obtain ⟨rfl, hu2⟩ : ok = true ∧ Hid (u.data.toList = [92, 83, 101, 101, 110]) := by
    cases ok
    · have := hu.out.1; cases this
    · exact ⟨rfl, Lib.hid (Option.some.inj hu.out.1).symm⟩
  have hq : (u.toList == [92, 83, 101, 101, 110]) = true := by rw [ByteArray.toList_eq, hu2.out]; rfl
  clear hu hcan
  go_wp2_with fail
  refine (make_any _ aliveIn _ ?_ (by decide) ?_).mono ?_
  · exact ⟨_, 4, rfl, .inr ⟨w1.heap.size, 0, rfl, by simp, Nat.le_refl _, fun i y hy => by
      match i, hy with
      | 0, hy => simp [aliveIn] at hy; subst hy; simp [encStr]
      | 1, hy => simp [aliveIn] at hy; subst hy; simp [encStr]
      | 2, hy => simp [aliveIn] at hy; subst hy; simp [encStr]
      | 3, hy => simp [aliveIn] at hy; subst hy; simp [encStr]⟩⟩
  · intro x hx
    refine small_size x ?_
    simp only [aliveIn, List.mem_cons, List.not_mem_nil, or_false] at hx
    rcases hx with rfl | rfl | rfl | rfl <;> decide
  rintro e w2 ⟨v2, rfl, hr2, b2⟩
  rw [alive_make.2] at hr2
  rw [alive_make.1]
  go_wp2_with fail
  refine (print_any v2 _ w2 hr2.out (by decide) (by decide)).mono ?_
  rintro e w3 ⟨s, rfl, hs, b3⟩
  rw [alive_print] at hs
  have hq3 : (s.toList == [40, 92, 68, 114, 97, 102, 116, 32, 97, 32, 98, 41]) = true := by rw [ByteArray.toList_eq, hs.out]; rfl
  have hb := Lib.hid ((((b1.out.alloc b1.out.size _).trans (b2.out.mono (by have := b1.out.size; simp; omega)))).trans (b3.mono (by have := b1.out.size; have := b2.out.size; simp at this; omega)))
  clear b1 b2 b3 hs hr2
  go_wp2_with fail
  go_ret
  exact ⟨rfl, hb.out⟩
end Go.Proofs.YtfglfoapgpghkaaDoor
