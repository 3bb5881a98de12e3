/- Print; what every right program answers: alive; and the walk of FlagMakes. -/
import Derived.Test.YtfglfoapgpghkaaFlF
namespace Go.Proofs.Ytfglfoapgpghkaa
open Go.RowKit

def printL (l : List (List UInt8)) : List UInt8 := 40 :: (Lib.join l [32] ++ [41])
set_option maxHeartbeats 1000000 in
theorem print_any (v : Value) (l : List (List UInt8)) (w : World) (hr : Rd w v l.length (l.map encStr)) (hl : l.length ≤ 140737488355328) (hj : (Lib.join l [32]).length ≤ 140737488355328) :
    Calls Try.prog 23 #[v] w (RetStr (printL l) w) := by
  have hjoin : Calls Try.prog 41 #[v, .string ⟨#[32]⟩] w fun e w' => ∃ u : ByteArray, e = .returned (.string u) ∧ Hid (u.data.toList = Lib.join l [32]) ∧ Hid (u.size ≤ 140737488355328) ∧ Hid (Below w.heap.size w w') := by
    obtain ⟨ao, cap, rfl, h⟩ := hr
    rcases h with h | ⟨b, o, rfl, hb, hle, hc⟩
    · obtain rfl := List.eq_nil_of_length_eq_zero h
      exact (Try.strings_Join_none ao cap ⟨#[32]⟩ w).mono fun _ _ ⟨he, hw⟩ => ⟨_, he, Lib.hid rfl, Lib.hid (Nat.zero_le _), Lib.hid (by rw [hw]; exact Below.refl _ _)⟩
    · have e : (l.map mkB).map (·.data.toList) = l := by rw [List.map_map]; exact List.map_id' l
      have h := Try.strings_Join b o cap (l.map mkB) ⟨#[32]⟩ w (fun j x hx => by
        have hj' : j < l.length := by
          have := (List.getElem?_eq_some_iff.1 hx).1
          simpa using this
        rw [List.getElem?_map, List.getElem?_eq_getElem hj'] at hx
        have hx' : mkB l[j] = x := by simpa using hx
        rw [← hx']
        exact rd_cell hc hj') hb (by simpa using hl) (by simpa using hle) (by rw [e]; exact hj)
      rw [e, List.length_map] at h
      exact h.mono fun _ _ ⟨he, hb⟩ => ⟨_, he, Lib.hid rfl, Lib.hid (by rw [size_mk]; exact hj), Lib.hid hb⟩
  replace hjoin := Lib.hid hjoin
  go_enter Try.func23, Try.ntmps23
  go_wp2_with fail
  refine hjoin.out.mono ?_
  rintro e w1 ⟨u, rfl, hu, hus, hb⟩
  have hsz := hus.out
  go_wp2_with fail
  go_ret
  refine ⟨_, rfl, Lib.hid ?_, hb.out⟩
  rw [toList_app, toList_app, hu.out]
  rfl
theorem owns_emptyT (w : World) (B : Nat) (hB : B ≤ w.heap.size) : OwnT (w.alloc (.cells #[] 9)) B (.slice (some ⟨w.heap.size, 0, none⟩) 0 0) [] :=
  ⟨rfl, .inr ⟨w.heap.size, 0, #[], rfl, hB, heap_alloc_new w _, Nat.le_refl _, by unfold maxLen; omega, rfl, rfl⟩⟩
def aliveIn : List (List UInt8) := [[98], [92, 68, 82, 65, 70, 84], [97], [66]]
theorem alive_canon : canonL [92, 115, 101, 101, 110] = some [92, 83, 101, 101, 110] := by kernel_rfl
theorem alive_make : makeCode aliveIn = 0 ∧ makeSet aliveIn = [[92, 68, 114, 97, 102, 116], [97], [98]] := ⟨by kernel_rfl, by kernel_rfl⟩
theorem alive_print : printL [[92, 68, 114, 97, 102, 116], [97], [98]] = [40, 92, 68, 114, 97, 102, 116, 32, 97, 32, 98, 41] := by kernel_rfl
theorem small_size (l : List UInt8) (h : l.length ≤ 100) : (mkB l).size ≤ maxLen := by
  show l.length ≤ _
  unfold maxLen; omega
set_option maxRecDepth 100000 in
set_option maxHeartbeats 1000000 in
theorem alive_any (w : World) : Calls Try.prog 10 #[] w fun e w' => e = .returned (.bool true) ∧ Below w.heap.size w w' := by
  have hcan := Lib.hid (canon_any (mkB [92, 115, 101, 101, 110]) (small_size _ (by decide)) w)
  go_enter Try.func10, Try.ntmps10
  go_wp2_with fail
  refine hcan.out.mono ?_
  rintro e w1 ⟨u, ok, rfl, hu, b1⟩
  rw [mkB_list, alive_canon] at hu
  obtain ⟨rfl, hu2⟩ : ok = true ∧ Hid (u.data.toList = [92, 83, 101, 101, 110]) := by
    cases ok
    · have := hu.out.1; cases this
    · exact ⟨rfl, Lib.hid (Option.some.inj hu.out.1).symm⟩
  have hq : (u.toList == [92, 83, 101, 101, 110]) = true := by rw [ByteArray.toList_eq, hu2.out]; rfl
  clear hu hcan
  go_wp2_with fail
  refine (make_any _ aliveIn _ ?_ (by decide) ?_).mono ?_
  · exact ⟨_, 4, rfl, .inr ⟨w1.heap.size, 0, rfl, by simp, Nat.le_refl _, fun i y hy => by
      match i, hy with
      | 0, hy => simp [aliveIn] at hy; subst hy; simp [encStr]
      | 1, hy => simp [aliveIn] at hy; subst hy; simp [encStr]
      | 2, hy => simp [aliveIn] at hy; subst hy; simp [encStr]
      | 3, hy => simp [aliveIn] at hy; subst hy; simp [encStr]⟩⟩
  · intro x hx
    refine small_size x ?_
    simp only [aliveIn, List.mem_cons, List.not_mem_nil, or_false] at hx
    rcases hx with rfl | rfl | rfl | rfl <;> decide
  rintro e w2 ⟨v2, rfl, hr2, b2⟩
  rw [alive_make.2] at hr2
  rw [alive_make.1]
  go_wp2_with fail
  refine (print_any v2 _ w2 hr2.out (by decide) (by decide)).mono ?_
  rintro e w3 ⟨s, rfl, hs, b3⟩
  rw [alive_print] at hs
  have hq3 : (s.toList == [40, 92, 68, 114, 97, 102, 116, 32, 97, 32, 98, 41]) = true := by rw [ByteArray.toList_eq, hs.out]; rfl
  have hb := Lib.hid ((((b1.out.alloc b1.out.size _).trans (b2.out.mono (by have := b1.out.size; simp; omega)))).trans (b3.mono (by have := b1.out.size; have := b2.out.size; simp at this; omega)))
  clear b1 b2 b3 hs hr2
  go_wp2_with fail
  go_ret
  exact ⟨rfl, hb.out⟩
set_option maxRecDepth 100000 in
set_option maxHeartbeats 1000000 in
theorem flagMakes_any (v : Value) (l : List (List UInt8)) (w : World) (hr : Rd w v l.length (l.map encStr)) (hl : (l.length + 2) * 16 ≤ 140737488355328) (hs : Sized l) :
    Calls Try.prog 3 #[v] w fun e w' => e = .returned (.bool true) ∧ Below w.heap.size w w' := by
  have hr0 := Lib.hid hr
  have hlen : (l.map encStr).length = l.length * 1 := by simp
  have hone : ∀ u ∈ l.map encStr, u.oneCell' = true := fun u hu => by
    obtain ⟨x, _, rfl⟩ := List.mem_map.1 hu; rfl
  replace hlen := Lib.hid hlen
  replace hone := Lib.hid hone
  go_enter Try.func3, Try.ntmps3
  go_wp2_with (at_builtin; refine wpList_append_rd rfl (.tmp 8) (.tmp 9) 22 rfl w.heap.size 9 _ 1 16 Try.underlying22 str_info rfl (by decide) _ v 0 l.length [] (l.map encStr) rfl rfl (owns_emptyT w w.heap.size (Nat.le_refl _)) (hr0.out.below (Lays.alloc _ _).below) hlen.out hone.out (by unfold maxLen; omega) (by omega) (by simp) ?_)
  intro v1 w1 ho1 hg1 _
  have b1 : Below w.heap.size w w1 := (((Lays.alloc w _).below).grown hg1 (by simp) (fun k hk => by simp [Value.ownBlock] at hk; omega))
  have own1 : OwnT w1 w.heap.size v1 l := by
    unfold OwnT
    exact ho1
  replace own1 := Lib.hid own1
  replace b1 := Lib.hid b1
  clear ho1 hg1
  go_wp2_with fail
  refine (make_any v1 l w1 own1.out.rd hl hs).mono ?_
  rintro e w2 ⟨v2, rfl, r2, b2⟩
  have b2' := Lib.hid (b1.out.trans (b2.out.mono b1.out.size))
  have own2 := Lib.hid (own1.out.below b2.out)
  have hr2 := Lib.hid (hr0.out.below b2'.out)
  clear b1 b2 own1
  go_wp2_with fail
  refine (refMake_any v l w2 hr2.out hl hs).mono ?_
  rintro e w3 ⟨v3, rfl, r3, b3⟩
  have b3' := Lib.hid (b2'.out.trans (b3.out.mono b2'.out.size))
  have own3 := Lib.hid (own2.out.below b3.out)
  have r23 := Lib.hid (r2.out.below b3.out)
  have hr3 := Lib.hid (hr0.out.below b3'.out)
  clear b2' b3 own2 r2 hr2
  go_wp2_with fail
  refine (alive_any w3).mono ?_
  rintro e w4 ⟨rfl, b4⟩
  have b4' := Lib.hid (b3'.out.trans (b4.mono b3'.out.size))
  have own4 := Lib.hid (own3.out.below b4)
  have r24 := Lib.hid (r23.out.below b4)
  have r34 := Lib.hid (r3.out.below b4)
  have hr4 := Lib.hid (hr0.out.below b4'.out)
  have hms : (makeSet l).length * 16 ≤ 140737488355328 := by
    have : (makeSet l).length ≤ 16 := by
      rw [makeSet]
      split
      · simp
      · split
        · simp
        · omega
    omega
  clear b3' b4 own3 r23 r3 hr3
  go_wp2_with fail
  refine (same_any v2 v3 _ _ w4 r24.out r34.out hms).mono ?_
  rintro e w5 ⟨rfl, b5⟩
  rw [show decide (makeSet l = makeSet l) = true from by simp]
  have b5' := Lib.hid (b4'.out.trans (b5.mono b4'.out.size))
  have own5 := Lib.hid (own4.out.below b5)
  have hr5 := Lib.hid (hr0.out.below b5'.out)
  clear b4' b5 own4 r24 r34 hr4
  go_wp2_with fail
  refine (same_any v1 v _ _ w5 own5.out.rd hr5.out (by omega)).mono ?_
  rintro e w6 ⟨rfl, b6⟩
  rw [show decide (l = l) = true from by simp]
  have b6' := Lib.hid (b5'.out.trans (b6.mono b5'.out.size))
  clear b6 b5'
  go_wp2_with fail
  go_ret
  exact ⟨by simp, b6'.out⟩
end Go.Proofs.Ytfglfoapgpghkaa
