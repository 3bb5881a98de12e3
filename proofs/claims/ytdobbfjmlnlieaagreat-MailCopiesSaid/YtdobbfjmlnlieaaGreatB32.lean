/- The same request again: plain. The same request again, whole: plain. -/
import Derived.Test.YtdobbfjmlnlieaaGreatB20
namespace Go.Proofs.YtdobbfjmlnlieaaGreat
set_option linter.unusedSimpArgs false
open Go.RowKit

def seatI (m : Ml) (s : Nat) : Option Nat := m.seats.findIdx? (fun x => x.session == s)
/-- the session was there, and its seat is gone or has come as far as n -/
def Past (m : Ml) (s n : Nat) : Prop := s < m.ns ∧ ∀ x ∈ m.seats, x.session = s → n ≤ x.last
theorem Past.of {m m' : Ml} {s n : Nat} (h : Past m s n) (hn : m.ns ≤ m'.ns) (hs : ∀ x ∈ m'.seats, x.session = s → ∃ y ∈ m.seats, y.session = s ∧ y.last ≤ x.last) : Past m' s n :=
  ⟨by have := h.1; omega, fun x hx he => by
    obtain ⟨y, hy, e, hl⟩ := hs x hx he
    have := h.2 y hy e
    omega⟩
theorem Past.same {m m' : Ml} {s n : Nat} (h : Past m s n) (hn : m'.ns = m.ns) (hs : m'.seats = m.seats) : Past m' s n := h.of (Nat.le_of_eq hn.symm) (fun x hx he => ⟨x, by rw [← hs]; exact hx, he, Nat.le_refl _⟩)
end Go.Proofs.YtdobbfjmlnlieaaGreat
namespace Go.Proofs.YtdobbfjmlnlieaaGreat
set_option linter.unusedSimpArgs false
open Go.RowKit

end Go.Proofs.YtdobbfjmlnlieaaGreat
