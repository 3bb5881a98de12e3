/- 'alive': what every right program answers: true. -/
import Derived.Test.YtphahhmfijgalaaDoorWordH
namespace Go.Proofs.YtphahhmfijgalaaDoor
open Go.RowKit

/-- 'Unquote' hands back a text, a number and a bool -/
def unqT (o : Option (List UInt8 × Nat)) : List UInt8 := match o with | some (t, _) => t | none => []
def unqN (o : Option (List UInt8 × Nat)) : Nat := match o with | some (_, n) => n | none => 0
def RetUnq (l : List UInt8) (w : World) (e : Ending) (w' : World) : Prop := ∃ u : ByteArray, e = .returned (.tuple #[.string u, .int .i64 (unqN (unqL l) : Int), .bool (unqL l).isSome]) ∧ Hid (u.data.toList = unqT (unqL l)) ∧ Below w.heap.size w w'
theorem unqV_eq (o : Option (List UInt8 × Nat)) : unqV o = .tuple #[.string ⟨(unqT o).toArray⟩, .int .i64 (unqN o : Int), .bool o.isSome] := by
  cases o with
  | none => rfl
  | some p => rfl
theorem unquoteS_any (s : ByteArray) (hs : s.size < 140737488355328) (w : World) : Calls Tryd.prog 11 #[.string s] w (RetUnq s.data.toList w) :=
  (unquote_any s hs w).mono fun _ _ ⟨he, hb⟩ => ⟨⟨(unqT (unqL s.data.toList)).toArray⟩, by rw [he, unqV_eq], rfl, hb⟩
theorem refUnquoteS_any (s : ByteArray) (hs : s.size ≤ maxLen) (w : World) : Calls Tryd.prog 12 #[.string s] w (RetUnq s.data.toList w) :=
  (refUnquote_any s hs w).mono fun _ _ ⟨he, hb⟩ => ⟨⟨(unqT (unqL s.data.toList)).toArray⟩, by rw [he, unqV_eq], rfl, hb⟩

theorem eqT {u : ByteArray} {l m : List UInt8} (hu : Hid (u.data.toList = l)) (h : (l == m) = true) : (u.toList == m) = true := by
  rw [ByteArray.toList_eq, hu.out]; exact h

set_option maxHeartbeats 1000000 in
theorem alive_any (w : World) (ht : Tab w) : Calls Tryd.prog 13 #[] w fun e w' => e = .returned (.bool true) ∧ Below w.heap.size w w' := by
  have k1 : Hid (quoteOk [97, 34, 98] = true ∧ (quoteL [97, 34, 98] == [34, 97, 92, 34, 98, 34]) = true) := by constructor <;> rfl
  have k2 : Hid (unqN (unqL [34, 120, 34, 32, 121]) = 3 ∧ (unqL [34, 120, 34, 32, 121]).isSome = true ∧ (unqT (unqL [34, 120, 34, 32, 121]) == [120]) = true) := by refine ⟨?_, ?_, ?_⟩ <;> rfl
  have k3 : Hid (boxOk [105, 110, 66, 111, 120] = true ∧ (boxL [105, 110, 66, 111, 120] == [73, 78, 66, 79, 88]) = true) := by constructor <;> rfl
  have k4 : Hid ((formL [110, 105, 108] == [34, 110, 105, 108, 34]) = true) := by rfl
  have k5 : Hid ((Lib.decDigits 70 == [55, 48]) = true) := by show _ = _; rw [Lib.decDigits_two (by omega) (by omega)]; rfl
  go_enter Tryd.func13, Tryd.ntmps13
  go_wp2_with fail
  refine (quoteS_any _ (by decide) _).mono ?_
  rintro e w1 ⟨u1, rfl, h1, b1⟩
  have e1 := eqT h1 k1.out.2
  rw [show quoteOk (ByteArray.mk #[97, 34, 98]).data.toList = true from k1.out.1]
  go_wp2_with fail
  refine (unquoteS_any _ (by decide) _).mono ?_
  rintro e w2 ⟨u2, rfl, h2, b2⟩
  have e2 := eqT h2 k2.out.2.2
  rw [show (unqL (ByteArray.mk #[34, 120, 34, 32, 121]).data.toList).isSome = true from k2.out.2.1, show unqN (unqL (ByteArray.mk #[34, 120, 34, 32, 121]).data.toList) = 3 from k2.out.1]
  go_wp2_with fail
  refine (box_any _ (by decide) _).mono ?_
  rintro e w3 ⟨u3, rfl, h3, b3⟩
  have e3 := eqT h3 k3.out.2
  rw [show boxOk (ByteArray.mk #[105, 110, 66, 111, 120]).data.toList = true from k3.out.1]
  go_wp2_with fail
  have bb := below_mono (below_mono b1 b1.size b2) (Nat.le_trans b1.size b2.size) b3
  refine (form_any _ (by decide) _ (ht.later bb)).mono ?_
  rintro e w4 ⟨u4, rfl, h4, b4⟩
  have e4 := eqT h4 k4.out
  have bb4 := below_mono bb bb.size b4
  go_wp2_with fail
  refine (digits_any 70 (by omega) _ (ht.later bb4)).mono ?_
  rintro e w5 ⟨u5, rfl, h5, b5⟩
  have e5 := eqT h5 k5.out
  have bb5 := below_mono bb4 bb4.size b5
  go_wp2_with fail
  go_ret
  exact ⟨rfl, bb5⟩
end Go.Proofs.YtphahhmfijgalaaDoor
