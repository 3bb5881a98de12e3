/- MatchLogic, as the card calls it. -/
import Derived.Test.YtmlmkcpdgcojlaaDoorOpenK
import Derived.Test.YtmlmkcpdgcojlaaDoorMaO
namespace Go.Proofs.YtmlmkcpdgcojlaaDoor
open Go.RowKit

theorem matchLogic_card (va vb y : Value) (w : World) (ha : ∃ ks : List KeyD, KeysIn w w.heap.size va ks ∧ ∀ k ∈ ks, SetIn w k) (hb : ∃ ks : List KeyD, KeysIn w w.heap.size vb ks ∧ ∀ k ∈ ks, SetIn w k) (hy : ∃ x pl s, y = mailV x pl s ∧ FlagIn w x ∧ s.size ≤ 9223372036854775807 ∧ s.size ≤ reachBytes) (hm : ∃ m, w.cell? ⟨0, 0, none⟩ = some (.int .i64 m)) :
    Calls Tryd.prog 3 #[va, vb, y] w fun e w' => e = .returned (.bool true) ∧ Below w.heap.size w w' := by
  obtain ⟨ka, hka, hsa⟩ := ha
  obtain ⟨kb, hkb, hsb⟩ := hb
  obtain ⟨x, pl, s, rfl, hf, hs, _⟩ := hy
  exact matchLogic_any ka kb va vb x pl s hs w hka hkb hsa hsb hf hm
end Go.Proofs.YtmlmkcpdgcojlaaDoor
