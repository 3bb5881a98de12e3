/- SeqsetReads as its card calls it. -/
import Derived.Test.YtifpmcfadmmkiaaGreatDoorSqU
import Derived.Test.YtifpmcfadmmkiaaGreatDoorSqR
namespace Go.Proofs.YtifpmcfadmmkiaaGreatDoor
open Go.RowKit

theorem reads_card (s : ByteArray) (hs : s.size ≤ 1048576) (w : World) (hT : Tab w) (hE : Errs w) (hm : ∃ m, w.cell? ⟨0, 0, none⟩ = some (.int .i64 m)) :
    Calls Tryz.prog 3 #[.string s] w fun e w' => e = .returned (.bool true) ∧ Below w.heap.size w w' :=
  reads_any alive_any s hs w ⟨hT, hE, hm⟩
end Go.Proofs.YtifpmcfadmmkiaaGreatDoor
