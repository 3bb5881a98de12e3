/-
  DERIVED. GIVEN WITH THE SEED: THE CARDS: each row of YtfglfoapgpghkaaDoorRows.lean that lists a variable, with what it lists TIED to the program's text (the seventh form; the later family's looks); each row that meets fmt, with fmt's text TOLD by the authors' own Lean function (tested against real Go, not proved from fmt's source: count such statements apart). THE CARD IS WHAT COUNTS. Prove the row's statement (the work); the ties are given (YtfglfoapgpghkaaDoorTie.lean); close each card by the builder's one call (the guide's Derived/Test/ToyasCard.lean, 'card_holds'). Laid BY PROGRAM, IN A SANDBOX (cutbox-door.mjs). By AI agents, Wed Nov 11 2026. No macro, syntax, notation, axiom, sorry.
-/
import Derived.Test.YtfglfoapgpghkaaDoorRows
import GoSem.ClaimSeven
namespace Go.Proofs.YtfglfoapgpghkaaDoor
namespace Rows

/-- THE TIED CARD OF 'posthornlaw06.FlagLists'. -/
def flagListsCard : Claim7 := { stood := { row := flagListsRow, standIns := [], harness := (true, "9b570c0f63e00d69391c83ec2a881da8939fdc63f7c1064896661caf3558ee32"), looks := false }, kinds := [], alts := [], laidByText := true, laidKinds := [.data, .pinned], laidTests := true, laidLooks := .later }
def FlagListsCardSaid : Prop := Claim7.holds Tryd.pinned (.plain (OpenSpec.ofChange flagListsSpec)) flagListsCard

/-- THE TIED CARD OF 'posthornlaw06.FlagBack'. -/
def flagBackCard : Claim7 := { stood := { row := flagBackRow, standIns := [], harness := (true, "9b570c0f63e00d69391c83ec2a881da8939fdc63f7c1064896661caf3558ee32"), looks := false }, kinds := [], alts := [], laidByText := true, laidKinds := [.data, .pinned], laidTests := true, laidLooks := .later }
def FlagBackCardSaid : Prop := Claim7.holds Tryd.pinned (.plain (OpenSpec.ofChange flagBackSpec)) flagBackCard

/-- THE SECOND FORM's CARD OF 'posthornlaw06.FlagLists'. -/
def flagListsUptoCard : Claim7 := { stood := { row := flagListsUptoRow, standIns := [], harness := (true, "9b570c0f63e00d69391c83ec2a881da8939fdc63f7c1064896661caf3558ee32"), looks := false }, kinds := [], alts := [], laidByText := true, laidKinds := [.data, .pinned], laidTests := true, laidLooks := .later }
def FlagListsUptoCardSaid : Prop := Claim7.holds Tryd.pinned (.plain (OpenSpec.upto flagListsSpec)) flagListsUptoCard

/-- THE SECOND FORM's CARD OF 'posthornlaw06.FlagBack'. -/
def flagBackUptoCard : Claim7 := { stood := { row := flagBackUptoRow, standIns := [], harness := (true, "9b570c0f63e00d69391c83ec2a881da8939fdc63f7c1064896661caf3558ee32"), looks := false }, kinds := [], alts := [], laidByText := true, laidKinds := [.data, .pinned], laidTests := true, laidLooks := .later }
def FlagBackUptoCardSaid : Prop := Claim7.holds Tryd.pinned (.plain (OpenSpec.upto flagBackSpec)) flagBackUptoCard
end Rows
end Go.Proofs.YtfglfoapgpghkaaDoor
