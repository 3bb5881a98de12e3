/-
  No cell of these rows narrows 'for every input' (looked for: loops, veiled, ifaces, maps, wideKeys, modest, calm, conditions, laid).
  DERIVED. THE GIVEN ROWS OF THIS SEAT. 3 by the template 'for every input the law returns true; each argument reads behind the call as it read before'; 0 by the template 'total and deterministic' (their statements: YtcnebfmlelcliaaGreatTotals.lean).
  GIVEN WITH THE SEED: the statements are not yours to turn. If you find one false, say at which input.
  Laid BY PROGRAM, IN A SANDBOX (cutbox-rows.mjs): the forced cells as the released guide's own fill.sh prints them over the translation 570db72196c9aa2c… (all of the seat's roots in one cut). By AI agents, Wed Nov 11 2026. No macro, syntax, notation, axiom, sorry.
-/
import Derived.Test.YtcnebfmlelcliaaGreatChecked
import GoSem.Claim
import GoSem.ClaimJoined
import GoSem.ClaimMapViews
import Derived.JoinedTies
import Derived.KernelRfl
namespace Go.Proofs.YtcnebfmlelcliaaGreat
/- THE CELL 'sum', in the pinned program and in every row, IS THE sha256 OF THE DUMP (.gsa) THAT YtcnebfmlelcliaaGreatProg.lean LOADS. Nothing in Lean hashes anything: it is a label: what it is worth is what the hold of that sum in a sandbox is worth. -/
noncomputable def Tryz.pinned : Pinned := { name := "ytcnebfmlelcliaagreat", sum := "570db72196c9aa2c55f8ce90c515b4bab25d359eded99c126ec8965ac231a83e", checked := Tryz.checked }
namespace Rows
def none {H : Type} : Left H := { results := [], args := [] }

/-- 'posthornlaw22.ViewFollows': WHATEVER THE INPUT: true; the input reads as it did. -/
def viewFollowsSpec : ChangeSpec := { name := "viewFollows", fn := fun _ => fun
  | [d1, d2, d3] => { results := [.lit (.bool true)], args := [d1, d2, d3] }
  | _ => none }
def viewFollowsRow : OpenClaim := { program := "ytcnebfmlelcliaagreat", sum := "570db72196c9aa2c55f8ce90c515b4bab25d359eded99c126ec8965ac231a83e", func := "posthorn/posthornlaw22.ViewFollows", spec := "viewFollows", inPlace := ["internal/bytealg.IndexByteString", "internal/bytealg.abigen_runtime_cmpstring"], unfollowed := true, recurses := true, apart := false }
def ViewFollowsSaid : Prop := viewFollowsRow.holds Tryz.pinned (OpenSpec.ofChange viewFollowsSpec)

/-- ITS FALSE NEIGHBOUR: 'it returns false'. Refute it at one input. -/
def viewFollowsWrong : ChangeSpec := { name := "viewFollows", fn := fun _ => fun
  | [d1, d2, d3] => { results := [.lit (.bool false)], args := [d1, d2, d3] }
  | _ => none }
def ViewFollowsWrongFalsely : Prop := viewFollowsRow.holds Tryz.pinned (OpenSpec.ofChange viewFollowsWrong)

/-- 'posthornlaw22.ViewCounts': WHATEVER THE INPUT: true; the input reads as it did. -/
def viewCountsSpec : ChangeSpec := { name := "viewCounts", fn := fun _ => fun
  | [d1, d2, d3, d4] => { results := [.lit (.bool true)], args := [d1, d2, d3, d4] }
  | _ => none }
def viewCountsRow : OpenClaim := { program := "ytcnebfmlelcliaagreat", sum := "570db72196c9aa2c55f8ce90c515b4bab25d359eded99c126ec8965ac231a83e", func := "posthorn/posthornlaw22.ViewCounts", spec := "viewCounts", inPlace := ["internal/bytealg.IndexByteString", "internal/bytealg.abigen_runtime_cmpstring"], unfollowed := true, recurses := true, apart := false }
def ViewCountsSaid : Prop := viewCountsRow.holds Tryz.pinned (OpenSpec.ofChange viewCountsSpec)

/-- ITS FALSE NEIGHBOUR: 'it returns false'. Refute it at one input. -/
def viewCountsWrong : ChangeSpec := { name := "viewCounts", fn := fun _ => fun
  | [d1, d2, d3, d4] => { results := [.lit (.bool false)], args := [d1, d2, d3, d4] }
  | _ => none }
def ViewCountsWrongFalsely : Prop := viewCountsRow.holds Tryz.pinned (OpenSpec.ofChange viewCountsWrong)

/-- 'posthornlaw22.ViewQuiet': WHATEVER THE INPUT: true; the input reads as it did. -/
def viewQuietSpec : ChangeSpec := { name := "viewQuiet", fn := fun _ => fun
  | [d1, d2, d3, d4, d5] => { results := [.lit (.bool true)], args := [d1, d2, d3, d4, d5] }
  | _ => none }
def viewQuietRow : OpenClaim := { program := "ytcnebfmlelcliaagreat", sum := "570db72196c9aa2c55f8ce90c515b4bab25d359eded99c126ec8965ac231a83e", func := "posthorn/posthornlaw22.ViewQuiet", spec := "viewQuiet", inPlace := ["internal/bytealg.IndexByteString", "internal/bytealg.abigen_runtime_cmpstring"], unfollowed := true, recurses := true, apart := false }
def ViewQuietSaid : Prop := viewQuietRow.holds Tryz.pinned (OpenSpec.ofChange viewQuietSpec)

/-- ITS FALSE NEIGHBOUR: 'it returns false'. Refute it at one input. -/
def viewQuietWrong : ChangeSpec := { name := "viewQuiet", fn := fun _ => fun
  | [d1, d2, d3, d4, d5] => { results := [.lit (.bool false)], args := [d1, d2, d3, d4, d5] }
  | _ => none }
def ViewQuietWrongFalsely : Prop := viewQuietRow.holds Tryz.pinned (OpenSpec.ofChange viewQuietWrong)

/- THE SECOND FORM. 'bulk': how many values and letters a reading holds, each counted each time it is reached (what is shared counts as often as it is met; a slice's spare places count too). A statement '..UptoSaid' is the law's where the arguments, and the package variables that the reading takes, are together of bulk at most 1048576: NARROWER than '..Said'. Prove '..Said' where nothing that the law and all that it calls make is longer than what came in: it says more and counts as full. Else prove '..UptoSaid'. A law counts once. -/
mutual
def uptoBulk {H : Type} : DataW H → Nat
  | .lit (.string bytes) => bytes.length + 1
  | .lit _ => 1
  | .nil => 1
  | .ptr d => uptoBulk d + 1
  | .slice elems spare => uptoBulkAll elems + uptoBulkAll spare + 1
  | .agg parts => uptoBulkAll parts + 1
  | .iface _ d => uptoBulk d + 1
  | .map entries => uptoBulkEntries entries + 1
  | .held _ => 1
def uptoBulkAll {H : Type} : List (DataW H) → Nat
  | [] => 0
  | d :: r => uptoBulk d + uptoBulkAll r
def uptoBulkEntries {H : Type} : List (Lit × DataW H) → Nat
  | [] => 0
  | x :: r => uptoBulkEntry x + uptoBulkEntries r
def uptoBulkEntry {H : Type} : Lit × DataW H → Nat
  | (.string bytes, d) => bytes.length + uptoBulk d + 1
  | (_, d) => uptoBulk d + 1
 end
def uptoSmall : (H : Type) → List (DataW H) → Bool := fun _ ds => decide (uptoBulkAll ds ≤ 1048576)
def OpenSpec.upto (s : _root_.Go.ChangeSpec) : _root_.Go.OpenSpec := { _root_.Go.OpenSpec.ofChange s with cond := some uptoSmall }

/-- 'posthornlaw22.ViewFollows', WHERE WHAT IT READS IS OF BULK AT MOST 1048576: true; the input reads as it did. -/
def viewFollowsUptoRow : OpenClaim := { program := "ytcnebfmlelcliaagreat", sum := "570db72196c9aa2c55f8ce90c515b4bab25d359eded99c126ec8965ac231a83e", func := "posthorn/posthornlaw22.ViewFollows", spec := "viewFollows", inPlace := ["internal/bytealg.IndexByteString", "internal/bytealg.abigen_runtime_cmpstring"], unfollowed := true, recurses := true, apart := false, narrowed := true }
def ViewFollowsUptoSaid : Prop := viewFollowsUptoRow.holds Tryz.pinned (OpenSpec.upto viewFollowsSpec)

/-- 'posthornlaw22.ViewCounts', WHERE WHAT IT READS IS OF BULK AT MOST 1048576: true; the input reads as it did. -/
def viewCountsUptoRow : OpenClaim := { program := "ytcnebfmlelcliaagreat", sum := "570db72196c9aa2c55f8ce90c515b4bab25d359eded99c126ec8965ac231a83e", func := "posthorn/posthornlaw22.ViewCounts", spec := "viewCounts", inPlace := ["internal/bytealg.IndexByteString", "internal/bytealg.abigen_runtime_cmpstring"], unfollowed := true, recurses := true, apart := false, narrowed := true }
def ViewCountsUptoSaid : Prop := viewCountsUptoRow.holds Tryz.pinned (OpenSpec.upto viewCountsSpec)

/-- 'posthornlaw22.ViewQuiet', WHERE WHAT IT READS IS OF BULK AT MOST 1048576: true; the input reads as it did. -/
def viewQuietUptoRow : OpenClaim := { program := "ytcnebfmlelcliaagreat", sum := "570db72196c9aa2c55f8ce90c515b4bab25d359eded99c126ec8965ac231a83e", func := "posthorn/posthornlaw22.ViewQuiet", spec := "viewQuiet", inPlace := ["internal/bytealg.IndexByteString", "internal/bytealg.abigen_runtime_cmpstring"], unfollowed := true, recurses := true, apart := false, narrowed := true }
def ViewQuietUptoSaid : Prop := viewQuietUptoRow.holds Tryz.pinned (OpenSpec.upto viewQuietSpec)

end Rows
end Go.Proofs.YtcnebfmlelcliaaGreat
