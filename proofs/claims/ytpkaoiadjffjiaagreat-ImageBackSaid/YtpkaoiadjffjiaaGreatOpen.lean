/- Opening arguments of shapes that the kit has no word for. -/
import Derived.WalkKit
import Derived.ProofKit
import Derived.OpenShut
namespace Go.Proofs.YtpkaoiadjffjiaaGreat
open Go.ChangeShapes Go.WideShapes Go.ChangeAt Go.RowKit

/-- an array of five bools, by value -/
theorem open_bools5 {H : Type} {enc : TypeId × Value → H} {P : Program} {w : World} {r : Reach} {b base : Nat} {spare : Nat → Bool} {held : Bool} {t e : TypeId} {v : Value} {d : DataW H} {p : List MemPlace}
    (ht : P.underlying t = some (.array 5 e)) (he : P.underlying e = some .bool) (hce : P.cellsOf e = 1) (hct : P.cellsOf t = 5)
    (hv : Value.okWide P w r b t v) (h : DataW.Trod enc P w base spare held t v d p) :
    ∃ b0 b1 b2 b3 b4, v = .agg #[.bool b0, .bool b1, .bool b2, .bool b3, .bool b4] := by
  simp only [Value.okWide, ht] at hv
  obtain ⟨cs, rfl, hsz, _⟩ := hv
  obtain ⟨l⟩ := cs
  have hl : l.length = 5 := by rw [hct] at hsz; simpa using hsz
  match l, hl with
  | [c0, c1, c2, c3, c4], _ =>
    obtain ⟨fuel, hf⟩ := h
    obtain ⟨xs, m, _, _, _, hx, hall⟩ := DataW.trod_array ht hf
    match xs, hx with
    | [x0, x1, x2, x3, x4], _ =>
      have h0 := hall 0 (by omega)
      have h1 := hall 1 (by omega)
      have h2 := hall 2 (by omega)
      have h3 := hall 3 (by omega)
      have h4 := hall 4 (by omega)
      simp [Value.cells, hce] at h0 h1 h2 h3 h4
      obtain ⟨b0, e0, _⟩ := DataW.trod_bool he h0
      obtain ⟨b1, e1, _⟩ := DataW.trod_bool he h1
      obtain ⟨b2, e2, _⟩ := DataW.trod_bool he h2
      obtain ⟨b3, e3, _⟩ := DataW.trod_bool he h3
      obtain ⟨b4, e4, _⟩ := DataW.trod_bool he h4
      simp at e0 e1 e2 e3 e4
      subst e0 e1 e2 e3 e4
      exact ⟨b0, b1, b2, b3, b4, rfl⟩
end Go.Proofs.YtpkaoiadjffjiaaGreat
