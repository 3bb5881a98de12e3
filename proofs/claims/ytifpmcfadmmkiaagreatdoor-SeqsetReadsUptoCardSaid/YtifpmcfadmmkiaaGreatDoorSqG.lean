/- The document's Has; Pick of both; the document's Same: walked. -/
import Derived.Test.YtifpmcfadmmkiaaGreatDoorSqF
namespace Go.Proofs.YtifpmcfadmmkiaaGreatDoor
open Go.RowKit

theorem inAny_eq (rs : List Rng) (most n : Nat) : rs.any (inOne most n) = hasL rs most n := by
  unfold hasL
  congr 1
  funext r
  exact inOne_eq most n r
theorem inOne_at (most n f t a b : Nat) (ha : a = if f = 0 then most else f) (hb : b = if t = 0 then most else t) : inOne most n (f, t) = ((decide (a ≤ n) && decide (n ≤ b)) || (decide (b ≤ n) && decide (n ≤ a))) := by
  unfold inOne
  dsimp only
  rw [← ha, ← hb]
/-- e returns numbers -/
def NumsRet (l : List Nat) (w : World) (e : Ending) (w' : World) : Prop := ∃ v, e = .returned v ∧ Hid (Rd w' v l.length (l.map encU)) ∧ Hid (Below w.heap.size w w')
theorem num_cell {w : World} {b o k : Nat} {l : List Nat} (hc : ∀ i u, (l.map encU)[i]? = some u → w.cell? ⟨b, o + i, none⟩ = some u) (hk : k < l.length) : w.cell? ⟨b, o + k, none⟩ = some (.int .u64 (l[k] : Nat)) := hc k _ (by rw [List.getElem?_map, List.getElem?_eq_getElem hk]; rfl)
end Go.Proofs.YtifpmcfadmmkiaaGreatDoor
