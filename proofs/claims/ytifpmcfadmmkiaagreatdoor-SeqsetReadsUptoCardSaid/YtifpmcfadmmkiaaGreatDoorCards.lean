/-
  DERIVED. GIVEN WITH THE SEED: THE CARDS: each row of YtifpmcfadmmkiaaGreatDoorRows.lean that lists a variable, with what it lists TIED to the program's text (the seventh form; the later family's looks); each row that meets fmt, with fmt's text TOLD by the authors' own Lean function (tested against real Go, not proved from fmt's source: count such statements apart). THE CARD IS WHAT COUNTS. Prove the row's statement (the work); the ties are given (YtifpmcfadmmkiaaGreatDoorTie.lean); close each card by the builder's one call (the guide's Derived/Test/ToyasCard.lean, 'card_holds'). Laid BY PROGRAM, IN A SANDBOX (cutbox-door.mjs). By AI agents, Wed Nov 11 2026. No macro, syntax, notation, axiom, sorry.
-/
import Derived.Test.YtifpmcfadmmkiaaGreatDoorRows
import GoSem.ClaimSeven
namespace Go.Proofs.YtifpmcfadmmkiaaGreatDoor
namespace Rows

/-- THE TIED CARD OF 'posthornlaw05.SeqsetReads'. -/
def seqsetReadsCard : Claim7 := { stood := { row := seqsetReadsRow, standIns := [], harness := (true, "37cfb7ebabf89c31c4c009db4e4423cabc6729bbae16260d7aaf27ab8e42e3ab"), looks := true }, kinds := [], alts := [], laidByText := true, laidKinds := [.data, .data, .data, .data, .sentinel, .sentinel, .pinned], laidTests := true, laidLooks := .later }
def SeqsetReadsCardSaid : Prop := Claim7.holds Tryz.pinned (.plain (OpenSpec.ofChange seqsetReadsSpec)) seqsetReadsCard

/-- THE SECOND FORM's CARD OF 'posthornlaw05.SeqsetReads'. -/
def seqsetReadsUptoCard : Claim7 := { stood := { row := seqsetReadsUptoRow, standIns := [], harness := (true, "37cfb7ebabf89c31c4c009db4e4423cabc6729bbae16260d7aaf27ab8e42e3ab"), looks := true }, kinds := [], alts := [], laidByText := true, laidKinds := [.data, .data, .data, .data, .sentinel, .sentinel, .pinned], laidTests := true, laidLooks := .later }
def SeqsetReadsUptoCardSaid : Prop := Claim7.holds Tryz.pinned (.plain (OpenSpec.upto seqsetReadsSpec)) seqsetReadsUptoCard
end Rows
end Go.Proofs.YtifpmcfadmmkiaaGreatDoor
