/-
  DERIVED. GIVEN WITH THE SEED: THE CARDS: each row of YtifpmcfadmmkiaaDoorRows.lean that lists a variable, with what it lists TIED to the program's text (the seventh form; the later family's looks); each row that meets fmt, with fmt's text TOLD by the authors' own Lean function (tested against real Go, not proved from fmt's source: count such statements apart). THE CARD IS WHAT COUNTS. Prove the row's statement (the work); the ties are given (YtifpmcfadmmkiaaDoorTie.lean); close each card by the builder's one call (the guide's Derived/Test/ToyasCard.lean, 'card_holds'). Laid BY PROGRAM, IN A SANDBOX (cutbox-door.mjs). By AI agents, Wed Nov 11 2026. No macro, syntax, notation, axiom, sorry.
-/
import Derived.Test.YtifpmcfadmmkiaaDoorRows
import GoSem.ClaimSeven
namespace Go.Proofs.YtifpmcfadmmkiaaDoor
namespace Rows

/-- THE TIED CARD OF 'posthornlaw05.SeqsetWrites'. -/
def seqsetWritesCard : Claim7 := { stood := { row := seqsetWritesRow, standIns := [], harness := (true, "94f61d016c96b2ebebcd806a7122d714763979054a5245478fe5328b7e3f0d64"), looks := true }, kinds := [], alts := [], laidByText := true, laidKinds := [.data, .data, .data, .data, .sentinel, .sentinel, .pinned], laidTests := true, laidLooks := .later }
def SeqsetWritesCardSaid : Prop := Claim7.holds Tryd.pinned (.plain (OpenSpec.ofChange seqsetWritesSpec)) seqsetWritesCard

/-- THE TIED CARD OF 'posthornlaw05.SeqsetNorms'. -/
def seqsetNormsCard : Claim7 := { stood := { row := seqsetNormsRow, standIns := [], harness := (true, "94f61d016c96b2ebebcd806a7122d714763979054a5245478fe5328b7e3f0d64"), looks := true }, kinds := [], alts := [], laidByText := true, laidKinds := [.data, .data, .data, .data, .sentinel, .sentinel, .pinned], laidTests := true, laidLooks := .later }
def SeqsetNormsCardSaid : Prop := Claim7.holds Tryd.pinned (.plain (OpenSpec.ofChange seqsetNormsSpec)) seqsetNormsCard

/-- THE TIED CARD OF 'posthornlaw05.SeqsetBack'. -/
def seqsetBackCard : Claim7 := { stood := { row := seqsetBackRow, standIns := [], harness := (true, "94f61d016c96b2ebebcd806a7122d714763979054a5245478fe5328b7e3f0d64"), looks := true }, kinds := [], alts := [], laidByText := true, laidKinds := [.data, .data, .data, .data, .sentinel, .sentinel, .pinned], laidTests := true, laidLooks := .later }
def SeqsetBackCardSaid : Prop := Claim7.holds Tryd.pinned (.plain (OpenSpec.ofChange seqsetBackSpec)) seqsetBackCard

/-- THE TIED CARD OF 'posthornlaw05.SeqsetFew'. -/
def seqsetFewCard : Claim7 := { stood := { row := seqsetFewRow, standIns := [], harness := (true, "94f61d016c96b2ebebcd806a7122d714763979054a5245478fe5328b7e3f0d64"), looks := true }, kinds := [], alts := [], laidByText := true, laidKinds := [.data, .data, .data, .data, .sentinel, .sentinel, .pinned], laidTests := true, laidLooks := .later }
def SeqsetFewCardSaid : Prop := Claim7.holds Tryd.pinned (.plain (OpenSpec.ofChange seqsetFewSpec)) seqsetFewCard

/-- THE TIED CARD OF 'posthornlaw05.SeqsetTurned'. -/
def seqsetTurnedCard : Claim7 := { stood := { row := seqsetTurnedRow, standIns := [], harness := (true, "94f61d016c96b2ebebcd806a7122d714763979054a5245478fe5328b7e3f0d64"), looks := true }, kinds := [], alts := [], laidByText := true, laidKinds := [.data, .data, .data, .data, .sentinel, .sentinel, .pinned], laidTests := true, laidLooks := .later }
def SeqsetTurnedCardSaid : Prop := Claim7.holds Tryd.pinned (.plain (OpenSpec.ofChange seqsetTurnedSpec)) seqsetTurnedCard

/-- THE TIED CARD OF 'posthornlaw05.SeqsetHolds'. -/
def seqsetHoldsCard : Claim7 := { stood := { row := seqsetHoldsRow, standIns := [], harness := (true, "94f61d016c96b2ebebcd806a7122d714763979054a5245478fe5328b7e3f0d64"), looks := true }, kinds := [], alts := [], laidByText := true, laidKinds := [.data, .data, .data, .data, .sentinel, .sentinel, .pinned], laidTests := true, laidLooks := .later }
def SeqsetHoldsCardSaid : Prop := Claim7.holds Tryd.pinned (.plain (OpenSpec.ofChange seqsetHoldsSpec)) seqsetHoldsCard

/-- THE SECOND FORM's CARD OF 'posthornlaw05.SeqsetWrites'. -/
def seqsetWritesUptoCard : Claim7 := { stood := { row := seqsetWritesUptoRow, standIns := [], harness := (true, "94f61d016c96b2ebebcd806a7122d714763979054a5245478fe5328b7e3f0d64"), looks := true }, kinds := [], alts := [], laidByText := true, laidKinds := [.data, .data, .data, .data, .sentinel, .sentinel, .pinned], laidTests := true, laidLooks := .later }
def SeqsetWritesUptoCardSaid : Prop := Claim7.holds Tryd.pinned (.plain (OpenSpec.upto seqsetWritesSpec)) seqsetWritesUptoCard

/-- THE SECOND FORM's CARD OF 'posthornlaw05.SeqsetNorms'. -/
def seqsetNormsUptoCard : Claim7 := { stood := { row := seqsetNormsUptoRow, standIns := [], harness := (true, "94f61d016c96b2ebebcd806a7122d714763979054a5245478fe5328b7e3f0d64"), looks := true }, kinds := [], alts := [], laidByText := true, laidKinds := [.data, .data, .data, .data, .sentinel, .sentinel, .pinned], laidTests := true, laidLooks := .later }
def SeqsetNormsUptoCardSaid : Prop := Claim7.holds Tryd.pinned (.plain (OpenSpec.upto seqsetNormsSpec)) seqsetNormsUptoCard

/-- THE SECOND FORM's CARD OF 'posthornlaw05.SeqsetBack'. -/
def seqsetBackUptoCard : Claim7 := { stood := { row := seqsetBackUptoRow, standIns := [], harness := (true, "94f61d016c96b2ebebcd806a7122d714763979054a5245478fe5328b7e3f0d64"), looks := true }, kinds := [], alts := [], laidByText := true, laidKinds := [.data, .data, .data, .data, .sentinel, .sentinel, .pinned], laidTests := true, laidLooks := .later }
def SeqsetBackUptoCardSaid : Prop := Claim7.holds Tryd.pinned (.plain (OpenSpec.upto seqsetBackSpec)) seqsetBackUptoCard

/-- THE SECOND FORM's CARD OF 'posthornlaw05.SeqsetFew'. -/
def seqsetFewUptoCard : Claim7 := { stood := { row := seqsetFewUptoRow, standIns := [], harness := (true, "94f61d016c96b2ebebcd806a7122d714763979054a5245478fe5328b7e3f0d64"), looks := true }, kinds := [], alts := [], laidByText := true, laidKinds := [.data, .data, .data, .data, .sentinel, .sentinel, .pinned], laidTests := true, laidLooks := .later }
def SeqsetFewUptoCardSaid : Prop := Claim7.holds Tryd.pinned (.plain (OpenSpec.upto seqsetFewSpec)) seqsetFewUptoCard

/-- THE SECOND FORM's CARD OF 'posthornlaw05.SeqsetTurned'. -/
def seqsetTurnedUptoCard : Claim7 := { stood := { row := seqsetTurnedUptoRow, standIns := [], harness := (true, "94f61d016c96b2ebebcd806a7122d714763979054a5245478fe5328b7e3f0d64"), looks := true }, kinds := [], alts := [], laidByText := true, laidKinds := [.data, .data, .data, .data, .sentinel, .sentinel, .pinned], laidTests := true, laidLooks := .later }
def SeqsetTurnedUptoCardSaid : Prop := Claim7.holds Tryd.pinned (.plain (OpenSpec.upto seqsetTurnedSpec)) seqsetTurnedUptoCard

/-- THE SECOND FORM's CARD OF 'posthornlaw05.SeqsetHolds'. -/
def seqsetHoldsUptoCard : Claim7 := { stood := { row := seqsetHoldsUptoRow, standIns := [], harness := (true, "94f61d016c96b2ebebcd806a7122d714763979054a5245478fe5328b7e3f0d64"), looks := true }, kinds := [], alts := [], laidByText := true, laidKinds := [.data, .data, .data, .data, .sentinel, .sentinel, .pinned], laidTests := true, laidLooks := .later }
def SeqsetHoldsUptoCardSaid : Prop := Claim7.holds Tryd.pinned (.plain (OpenSpec.upto seqsetHoldsSpec)) seqsetHoldsUptoCard
end Rows
end Go.Proofs.YtifpmcfadmmkiaaDoor
