/- Split of the program: walked. -/
import Derived.Test.YtmlmkcpdgcojlaaDoorPaB
import Derived.Test.YtmlmkcpdgcojlaaDoorShelf
namespace Go.Proofs.YtmlmkcpdgcojlaaDoor
open Go.RowKit

/-- header and text of a message -/
def splitM (m : List UInt8) : List UInt8 × List UInt8 :=
  if atL m 0 [13, 10] then (m.take 2, m.drop 2)
  else if Lib.index m [13, 10, 13, 10] = -1 then (m, [])
  else (m.take ((Lib.index m [13, 10, 13, 10]).toNat + 4), m.drop ((Lib.index m [13, 10, 13, 10]).toNat + 4))
def SplitRet (m : List UInt8) (w : World) (e : Ending) (w' : World) : Prop := ∃ h t : ByteArray, e = .returned (.tuple #[.string h, .string t]) ∧ Hid (h.data.toList = (splitM m).1 ∧ t.data.toList = (splitM m).2) ∧ ∃ n, w' = w.drewN n
theorem index_spec (u : List UInt8) : ∀ (s : List UInt8) (i : Nat), Lib.index s u = i → atL s i u = true ∧ (∀ j, j < i → atL s j u = false) ∧ i ≤ s.length
  | [], i, h => by
    rw [Lib.index] at h
    split at h
    · rename_i he
      obtain rfl : i = 0 := by omega
      have : u = [] := by simpa using he
      subst this
      exact ⟨rfl, fun j hj => by omega, by simp⟩
    · omega
  | b :: l, i, h => by
    rw [Lib.index] at h
    split at h
    · rename_i he
      obtain rfl : i = 0 := by omega
      exact ⟨he, fun j hj => by omega, by simp⟩
    · rename_i he
      split at h
      · omega
      · obtain ⟨k, rfl⟩ : ∃ k, i = k + 1 := ⟨i - 1, by have := Lib.index_ge l u; rename_i h2; simp at h2; omega⟩
        obtain ⟨h1, h2, h3⟩ := index_spec u l k (by omega)
        refine ⟨h1, fun j hj => ?_, by simp; omega⟩
        cases j with
        | zero => exact Bool.eq_false_iff.2 he
        | succ j => exact h2 j (by omega)
theorem index_miss (u : List UInt8) : ∀ (s : List UInt8), Lib.index s u = -1 → ∀ j, j ≤ s.length → atL s j u = false
  | [], h, j, hj => by
    rw [Lib.index] at h
    split at h
    · omega
    · rename_i he
      obtain rfl : j = 0 := by simpa using hj
      cases u with
      | nil => simp at he
      | cons x r => rfl
  | b :: l, h, j, hj => by
    rw [Lib.index] at h
    split at h
    · omega
    · rename_i he
      split at h
      · rename_i h2
        cases j with
        | zero => exact Bool.eq_false_iff.2 he
        | succ j => exact index_miss u l (by simpa using h2) j (by simpa using hj)
      · have := Lib.index_ge l u; omega
theorem at_fits {s u : List UInt8} {i : Nat} (h : atL s i u = true) (hi : i ≤ s.length) : i + u.length ≤ s.length := by
  rcases Nat.lt_or_ge (s.drop i).length u.length with h2 | h2
  · rw [atL, prefix_short _ _ h2] at h; cases h
  · rw [List.length_drop] at h2; omega
theorem split_any (s : ByteArray) (hs : s.size < 4294967281) (m : Int) (w : World) (hm : w.cell? ⟨0, 0, none⟩ = some (.int .i64 m)) :
    Calls Tryd.prog 31 #[.string s] w (SplitRet s.data.toList w) := by
  have hp := Tryd.strings_HasPrefix s ⟨#[13, 10]⟩ w
  have hi := Tryd.strings_Index s ⟨#[13, 10, 13, 10]⟩ m w hs hm
  have e1 : Lib.hasPrefix s.data.toList (ByteArray.mk #[13, 10]).data.toList = atL s.data.toList 0 [13, 10] := rfl
  rw [e1] at hp
  have hsl : s.data.toList.length = s.size := rfl
  clear hm
  cases hA : atL s.data.toList 0 [13, 10]
  · rw [hA] at hp
    obtain ⟨I, hI⟩ : ∃ I, Hid (Lib.index s.data.toList [13, 10, 13, 10] = I) := ⟨_, Lib.hid rfl⟩
    replace hi : Calls Tryd.prog 34 #[.string s, .string ⟨#[13, 10, 13, 10]⟩] w fun e w' => e = .returned (.int .i64 I) ∧ w' = w := by rw [← hI.out]; exact hi
    replace hp := Lib.hid hp
    replace hi := Lib.hid hi
    have hA9 := hA
    replace hA := Lib.hid hA
    by_cases hn : I = -1
    · subst hn
      have hsp : Hid (splitM s.data.toList = (s.data.toList, [])) := Lib.hid (by rw [splitM, if_neg (by rw [hA.out]; simp), if_pos hI.out])
      clear hA9 hsl
      go_enter Tryd.func31, Tryd.ntmps31
      go_wp2_with fail
      refine hp.out.mono ?_
      rintro e w' ⟨rfl, rfl⟩
      go_wp2_with fail
      refine hi.out.mono ?_
      rintro e w2 ⟨rfl, rfl⟩
      go_wp2_with fail
      go_ret2
      exact ⟨_, _, rfl, Lib.hid (by rw [hsp.out]; exact ⟨rfl, rfl⟩), 0, rfl⟩
    · have hge := Lib.index_ge s.data.toList [13, 10, 13, 10]
      rw [hI.out] at hge
      obtain ⟨i, rfl⟩ : ∃ i : Nat, I = i := ⟨I.toNat, by omega⟩
      have hsp : Hid (splitM s.data.toList = (s.data.toList.take (i + 4), s.data.toList.drop (i + 4))) := Lib.hid (by
        rw [splitM, if_neg (by rw [hA.out]; simp), hI.out, if_neg hn]; rfl)
      have hsx := index_spec _ _ _ hI.out
      have hib : i + 4 ≤ s.size := at_fits hsx.1 hsx.2.2
      clear hsx
      clear hA9 hsl hge hn
      go_enter Tryd.func31, Tryd.ntmps31
      go_wp2_with fail
      refine hp.out.mono ?_
      rintro e w' ⟨rfl, rfl⟩
      go_wp2_with fail
      refine hi.out.mono ?_
      rintro e w2 ⟨rfl, rfl⟩
      go_wp2_with fail
      go_region
      go_wp2_with fail
      go_ret2
      refine ⟨_, _, rfl, Lib.hid ?_, 1, rfl⟩
      rw [hsp.out]
      refine ⟨?_, ?_⟩
      · rw [Lib.extract_data]; simp
      · rw [Lib.extract_data]
        exact List.take_of_length_le (by rw [List.length_drop]; exact Nat.le_refl _)
  · rw [hA] at hp
    have h2 : 2 ≤ s.size := by
      rcases Nat.lt_or_ge s.size 2 with h | h
      · rw [atL, prefix_short _ _ (by simp; omega)] at hA; cases hA
      · exact h
    have hsp : Hid (splitM s.data.toList = (s.data.toList.take 2, s.data.toList.drop 2)) := Lib.hid (by rw [splitM, if_pos hA])
    replace hp := Lib.hid hp
    replace hA := Lib.hid hA
    clear hi hsl
    go_enter Tryd.func31, Tryd.ntmps31
    go_wp2_with fail
    refine hp.out.mono ?_
    rintro e w' ⟨rfl, rfl⟩
    go_wp2_with fail
    go_region
    go_wp2_with fail
    go_ret2
    refine ⟨_, _, rfl, Lib.hid ?_, 1, rfl⟩
    rw [hsp.out]
    refine ⟨?_, ?_⟩
    · have hp2 := hA.out
      rw [atL, List.drop_zero, prefix_take, beq_iff_eq] at hp2
      exact hp2.symm
    · rw [Lib.extract_data]
      exact List.take_of_length_le (by rw [List.length_drop]; exact Nat.le_refl _)
end Go.Proofs.YtmlmkcpdgcojlaaDoor
