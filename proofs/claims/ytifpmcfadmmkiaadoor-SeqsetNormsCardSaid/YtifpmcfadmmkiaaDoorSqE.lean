/- Print: walked. -/
import Derived.Test.YtifpmcfadmmkiaaDoorSqD
namespace Go.Proofs.YtifpmcfadmmkiaaDoor
open Go.RowKit

/-- a range as it is written -/
def rngL (r : Rng) : List UInt8 := if r.2 = r.1 then toldL r.1 else toldL r.1 ++ (58 :: toldL r.2)
def rngOk (r : Rng) : Bool := decide (max r.1 r.2 ≤ 4294967295)
def printOk (rs : List Rng) : Bool := decide (1 ≤ rs.length) && decide (rs.length ≤ 64) && rs.all rngOk
def printL (rs : List Rng) : List UInt8 := Lib.join (rs.map rngL) [44]
def PrintRet (rs : List Rng) (w : World) (e : Ending) (w' : World) : Prop := ∃ u : ByteArray, e = .returned (.tuple #[.string u, .bool (printOk rs)]) ∧ Hid (u.data.toList = if printOk rs = true then printL rs else []) ∧ Hid (Below w.heap.size w w')
theorem print_no {rs : List Rng} {w w' : World} (h : printOk rs = false) (hb : Below w.heap.size w w') : PrintRet rs w (.returned (.tuple #[.string ⟨#[]⟩, .bool false])) w' :=
  ⟨_, by rw [h], Lib.hid (by rw [h]; rfl), Lib.hid hb⟩
theorem print_yes {rs : List Rng} {u : ByteArray} {w w' : World} (h : printOk rs = true) (hu : u.data.toList = printL rs) (hb : Below w.heap.size w w') : PrintRet rs w (.returned (.tuple #[.string u, .bool true])) w' :=
  ⟨u, by rw [h], Lib.hid (by rw [h]; exact hu), Lib.hid hb⟩
theorem toldL_len (n : Nat) (h : n < 18446744073709551616) : (toldL n).length ≤ 20 := by
  unfold toldL
  split
  · decide
  · rw [Lib.decDigits_length]; exact Lib.nDigits_le20 n h
theorem rngL_len (r : Rng) (h1 : r.1 < 18446744073709551616) (h2 : r.2 < 18446744073709551616) : (rngL r).length ≤ 41 := by
  have := toldL_len r.1 h1
  have := toldL_len r.2 h2
  unfold rngL
  split
  · omega
  · rw [List.length_append, List.length_cons]; omega
theorem joinTail_len (sep : List UInt8) : ∀ l : List (List UInt8), (∀ x ∈ l, x.length ≤ 41) → (Lib.joinTail sep l).length ≤ l.length * (41 + sep.length)
  | [], _ => Nat.zero_le _
  | x :: r, h => by
    have := joinTail_len sep r (fun y hy => h y (List.mem_cons_of_mem _ hy))
    have := h x (List.mem_cons_self)
    show ((sep ++ x) ++ Lib.joinTail sep r).length ≤ (r.length + 1) * (41 + sep.length)
    rw [List.length_append, List.length_append, Nat.succ_mul]; omega
theorem join_len (l : List (List UInt8)) (h : ∀ x ∈ l, x.length ≤ 41) : (Lib.join l [44]).length ≤ l.length * 42 := by
  cases l with
  | nil => exact Nat.zero_le _
  | cons x r =>
    have := joinTail_len [44] r (fun y hy => h y (List.mem_cons_of_mem _ hy))
    have := h x (List.mem_cons_self)
    rw [Lib.join_cons, List.length_append, List.length_cons]
    rw [List.length_singleton] at *
    omega
theorem join_any (v : Value) (l : List (List UInt8)) (w : World) (hr : Rd w v l.length (l.map encStr)) (hl : l.length ≤ 140737488355328) (hj : (Lib.join l [44]).length ≤ 140737488355328) :
    Calls Tryd.prog 22 #[v, .string ⟨#[44]⟩] w fun e w' => ∃ u : ByteArray, e = .returned (.string u) ∧ Hid (u.data.toList = Lib.join l [44]) ∧ Hid (Below w.heap.size w w') := by
  obtain ⟨ao, cap, rfl, h⟩ := hr
  rcases h with h | ⟨b, o, rfl, hb, hle, hc⟩
  · obtain rfl := List.eq_nil_of_length_eq_zero h
    exact (Tryd.strings_Join_none ao cap ⟨#[44]⟩ w).mono fun _ _ ⟨he, hw⟩ => ⟨_, he, Lib.hid rfl, Lib.hid (by rw [hw]; exact Below.refl _ _)⟩
  · have e : (l.map mkB).map (·.data.toList) = l := by rw [List.map_map]; exact List.map_id' l
    have h := Tryd.strings_Join b o cap (l.map mkB) ⟨#[44]⟩ w (fun j x hx => by
      have hj' : j < l.length := by
        have := (List.getElem?_eq_some_iff.1 hx).1
        simpa using this
      rw [List.getElem?_map, List.getElem?_eq_getElem hj'] at hx
      have hx' : mkB l[j] = x := by simpa using hx
      rw [← hx']
      exact rd_cell hc hj') hb (by simpa using hl) (by simpa using hle) (by rw [e]; exact hj)
    rw [e, List.length_map] at h
    exact h.mono fun _ _ ⟨he, hb⟩ => ⟨_, he, Lib.hid rfl, Lib.hid hb⟩
theorem rngOk_take {rs : List Rng} {k : Nat} (hlt : k < rs.length) (h : rngOk rs[k] = false) : printOk rs = false := by
  have : rs.all rngOk = false := List.all_eq_false.2 ⟨rs[k], List.getElem_mem hlt, by rw [h]; simp⟩
  rw [printOk, this, Bool.and_false]
set_option maxRecDepth 100000 in
set_option maxHeartbeats 4000000 in
theorem print_any (rs : List Rng) (v : Value) (w : World) (hk : RangesIn w w.heap.size v rs) (hu : ∀ r ∈ rs, r.1 < 18446744073709551616 ∧ r.2 < 18446744073709551616) (ht : Tab w) :
    Calls Tryd.prog 9 #[v] w (PrintRet rs w) := by
  have hk0 := Lib.hid hk
  replace ht := Lib.hid ht
  replace hu := Lib.hid hu
  obtain ⟨ao, cap, rfl, _⟩ := hk
  by_cases h1 : 1 ≤ rs.length
  · by_cases h64 : rs.length ≤ 64
    · have hok : Hid (printOk rs = rs.all rngOk) := Lib.hid (by rw [printOk, decide_eq_true h1, decide_eq_true h64]; rfl)
      go_enter Tryd.func9, Tryd.ntmps9
      go_wp2_with fail
      go_loopw [4, 18] (fun v4 v18 wr => ∃ k : Nat, v18 = .int .i64 k ∧ k ≤ rs.length ∧ Hid ((rs.take k).all rngOk = true) ∧ Hid (OwnT wr w.heap.size v4 ((rs.take k).map rngL)) ∧ Hid (Below w.heap.size w wr)) (fun _ v18 _ => rs.length - (intOf v18).toNat)
      case atStart => exact ⟨0, rfl, Nat.zero_le _, Lib.hid rfl, Lib.hid (OwnT.nil _ _), Lib.hid (Below.refl _ _)⟩
      case round =>
        obtain ⟨k, rfl, hkl, hall, hown, hb⟩ := hrel
        have hsz := hb.out.size
        by_cases hlt : k < rs.length
        · obtain ⟨ao', cap', hv, hk | ⟨b, o, hao, hbB, hcap, hcells⟩⟩ := hk0.out.later hb.out
          · rw [hk] at hlt; simp at hlt
          · cases hv
            subst hao
            obtain ⟨c0, c1⟩ := hcells k hlt
            clear hcells
            have hux := hu.out _ (List.getElem_mem hlt)
            have hbad : rngOk rs[k] = false → printOk rs = false := rngOk_take hlt
            have htk : rs.take (k + 1) = rs.take k ++ [rs[k]] := List.take_succ_eq_append_getElem hlt
            generalize rs[k] = r at c0 c1 hux hbad htk
            obtain ⟨x, y⟩ := r
            dsimp only at c0 c1 hux
            have hxx := hux.1
            have hyy := hux.2
            have hT := Lib.hid (fun W (h : Below w.heap.size w W) => told_any x hxx W (ht.out.later h))
            have hT2 := Lib.hid (fun W (h : Below w.heap.size w W) => told_any y hyy W (ht.out.later h))
            have hnew := cells_new wr #[.int .u64 x, .int .u64 y] 37
            by_cases hbig : max x y ≤ 4294967295
            · have hall2 : Hid ((rs.take (k + 1)).all rngOk = true) := Lib.hid (by rw [htk, List.all_append, hall.out]; simp [rngOk, hbig])
              have hmap : Hid ((rs.take (k + 1)).map rngL = (rs.take k).map rngL ++ [rngL (x, y)]) := Lib.hid (by rw [htk, List.map_append]; rfl)
              have hbW := Lib.hid (hb.out.alloc hsz (.cells #[.int .u64 x, .int .u64 y] 37))
              have hoW := Lib.hid (hown.out.alloc (.cells #[.int .u64 x, .int .u64 y] 37))
              have hgt : decide ((4294967295 : Int) < max (x : Int) (y : Int)) = false := by simp; omega
              have hkl2 : ((rs.take k).map rngL).length ≤ 64 := by simp; omega
              clear hbad htk hux
              by_cases hxy : y = x
              · subst hxy
                have hr1 : Hid (rngL (y, y) = toldL y) := Lib.hid (by unfold rngL; rw [if_pos rfl])
                go_wp2_with fail
                refine (hT.out _ hbW.out).mono ?_
                rintro e w2 ⟨u1, rfl, hu1, hb2⟩
                have hB2 := Lib.hid (hbW.out.trans (hb2.mono hbW.out.size))
                have hO2 := Lib.hid (hoW.out.below hb2)
                have hz2 := hB2.out.size
                have d0 := cell_at (heap_below hnew hb2) 0
                have d1 := cell_at (heap_below hnew hb2) 1
                clear hT hT2 hb2
                go_wp2_with (at_builtin; refine wpList_append_text (W := w2) rfl _ _ rfl w.heap.size u4 ((rs.take k).map rngL) u1 rfl rfl hO2.out (by omega) hz2 ?_)
                intro v4 w4 ho4 hb4
                have hB4 := Lib.hid (hB2.out.trans hb4)
                have ho4' : Hid (OwnT w4 w.heap.size v4 ((rs.take (k + 1)).map rngL)) := Lib.hid (by
                  rw [hmap.out, show rngL (y, y) = u1.data.toList from hr1.out.trans hu1.out.symm]
                  first | exact ho4 | (rw [List.map_take]; exact ho4))
                clear hO2 hb4 hB2 ho4
                go_wp2_with fail
                go_roundw
                case rel => exact ⟨k + 1, by go_num, by omega, hall2, ho4', hB4⟩
                case measure => simp [intOf] <;> omega
              · have hr1 : Hid (rngL (x, y) = toldL x ++ (58 :: toldL y)) := Lib.hid (by unfold rngL; rw [if_neg hxy])
                have hne : ((y : Int) != (x : Int)) = true := by rw [bne_iff_ne]; omega
                have hu1s : ∀ u : ByteArray, u.data.toList = toldL x → u.size ≤ 20 := fun u h => by rw [size_of_list h]; exact toldL_len x hxx
                have hu2s : ∀ u : ByteArray, u.data.toList = toldL y → u.size ≤ 20 := fun u h => by rw [size_of_list h]; exact toldL_len y hyy
                replace hu1s := Lib.hid hu1s
                replace hu2s := Lib.hid hu2s
                clear hxy
                go_wp2_with fail
                refine (hT.out _ hbW.out).mono ?_
                rintro e w2 ⟨u1, rfl, hu1, hb2⟩
                have hB2 := Lib.hid (hbW.out.trans (hb2.mono hbW.out.size))
                have hO2 := Lib.hid (hoW.out.below hb2)
                have hz2 := hB2.out.size
                have d0 := cell_at (heap_below hnew hb2) 0
                have d1 := cell_at (heap_below hnew hb2) 1
                have hs1 := hu1s.out u1 hu1.out
                clear hT hb2
                go_wp2_with fail
                refine (hT2.out _ hB2.out).mono ?_
                rintro e w3 ⟨u2, rfl, hu2, hb3⟩
                have hs2 := hu2s.out u2 hu2.out
                have hB3 := Lib.hid (hB2.out.trans (hb3.mono hB2.out.size))
                have hO3 := Lib.hid (hO2.out.below hb3)
                have hz3 := hB3.out.size
                clear hT2 hb3 hB2 hO2 hz2
                have hz2 := hz3
                have hsz1 : (⟨#[58]⟩ ++ u2 : ByteArray).size = 1 + u2.size := by rw [ByteArray.size_append]; rfl
                go_wp2_with (at_builtin; refine wpList_append_text (W := w3) rfl _ _ rfl w.heap.size u4 ((rs.take k).map rngL) (u1 ++ (ByteArray.mk #[58] ++ u2)) rfl rfl hO3.out (by omega) hz2 ?_)
                intro v4 w4 ho4 hb4
                have hB4 := Lib.hid (hB3.out.trans hb4)
                have ho4' : Hid (OwnT w4 w.heap.size v4 ((rs.take (k + 1)).map rngL)) := Lib.hid (by
                  rw [hmap.out, show rngL (x, y) = (u1 ++ (⟨#[58]⟩ ++ u2)).data.toList from by rw [toList_app, toList_app, hr1.out, hu1.out, hu2.out]; rfl]
                  first | exact ho4 | (rw [List.map_take]; exact ho4))
                clear hO3 hb4 hB3 ho4
                go_wp2_with fail
                go_roundw
                case rel => exact ⟨k + 1, by go_num, by omega, hall2, ho4', hB4⟩
                case measure => simp [intOf] <;> omega
            · have hq := Lib.hid (hbad (by unfold rngOk; rw [decide_eq_false hbig]))
              have hgt : decide ((4294967295 : Int) < max (x : Int) (y : Int)) = true := by simp; omega
              have hbW := Lib.hid (hb.out.alloc hsz (.cells #[.int .u64 x, .int .u64 y] 37))
              clear hbad htk hux
              go_wp2_with fail
              go_ret2
              exact print_no hq.out hbW.out
        · obtain rfl : k = rs.length := by omega
          rw [List.take_length] at hall hown
          have hj := Lib.hid (join_any _ (rs.map rngL) wr (by have := hown.out.rd; rw [List.length_map] at this ⊢; exact this) (by simp; omega) (by
            have := join_len (rs.map rngL) (fun x hx => by
              obtain ⟨r, hr, rfl⟩ := List.mem_map.1 hx
              exact rngL_len r (hu.out r hr).1 (hu.out r hr).2)
            rw [List.length_map] at this; omega))
          have hq : Hid (printOk rs = true) := Lib.hid (by rw [hok.out, hall.out])
          go_wp2_with fail
          refine hj.out.mono ?_
          rintro e w2 ⟨u, rfl, hu2, hb2⟩
          have hB := Lib.hid (hb.out.trans (hb2.out.mono hb.out.size))
          clear hj hb2
          go_wp2_with fail
          go_ret2
          exact print_yes hq.out hu2.out hB.out
    · have hn : Hid (printOk rs = false) := Lib.hid (by rw [printOk, decide_eq_false h64, Bool.and_false, Bool.false_and])
      go_enter Tryd.func9, Tryd.ntmps9
      go_wp2_with fail
      go_ret2
      exact print_no hn.out (Below.refl _ _)
  · have hn : Hid (printOk rs = false) := Lib.hid (by rw [printOk, decide_eq_false h1, Bool.false_and, Bool.false_and])
    go_enter Tryd.func9, Tryd.ntmps9
    go_wp2_with fail
    go_ret2
    exact print_no hn.out (Below.refl _ _)
end Go.Proofs.YtifpmcfadmmkiaaDoor
