/-
  No cell of these rows narrows 'for every input' (looked for: loops, veiled, ifaces, maps, wideKeys, modest, calm, conditions, laid).
  DERIVED. THE GIVEN ROWS OF THIS SEAT. 5 by the template 'for every input the law returns true; each argument reads behind the call as it read before'; 0 by the template 'total and deterministic' (their statements: YtfglfoapgpghkaaTotals.lean).
  GIVEN WITH THE SEED: the statements are not yours to turn. If you find one false, say at which input.
  Laid BY PROGRAM, IN A SANDBOX (cutbox-rows.mjs): the forced cells as the released guide's own fill.sh prints them over the translation ba9bef556888ce01… (all of the seat's roots in one cut). By AI agents, Wed Nov 11 2026. No macro, syntax, notation, axiom, sorry.
-/
import Derived.Test.YtfglfoapgpghkaaChecked
import GoSem.Claim
import GoSem.ClaimJoined
import GoSem.ClaimMapViews
import Derived.JoinedTies
import Derived.KernelRfl
namespace Go.Proofs.Ytfglfoapgpghkaa
/- THE CELL 'sum', in the pinned program and in every row, IS THE sha256 OF THE DUMP (.gsa) THAT YtfglfoapgpghkaaProg.lean LOADS. Nothing in Lean hashes anything: it is a label: what it is worth is what the hold of that sum in a sandbox is worth. -/
noncomputable def Try.pinned : Pinned := { name := "ytfglfoapgpghkaa", sum := "ba9bef556888ce01b34bfffbd5138490c1c54f1237367d0ab946a282f31ea795", checked := Try.checked }
namespace Rows
def none {H : Type} : Left H := { results := [], args := [] }

/-- 'posthornlaw06.FlagMakes': WHATEVER THE INPUT: true; the input reads as it did. -/
def flagMakesSpec : ChangeSpec := { name := "flagMakes", fn := fun _ => fun
  | [d] => { results := [.lit (.bool true)], args := [d] }
  | _ => none }
def flagMakesRow : OpenClaim := { program := "ytfglfoapgpghkaa", sum := "ba9bef556888ce01b34bfffbd5138490c1c54f1237367d0ab946a282f31ea795", func := "posthorn/posthornlaw06.FlagMakes", spec := "flagMakes", inPlace := ["internal/bytealg.IndexByteString", "internal/bytealg.abigen_runtime_cmpstring", "internal/abi.NoEscape", "internal/bytealg.MakeNoZero"], unfollowed := true, recurses := true, apart := false }
def FlagMakesSaid : Prop := flagMakesRow.holds Try.pinned (OpenSpec.ofChange flagMakesSpec)

/-- ITS FALSE NEIGHBOUR: 'it returns false'. Refute it at one input. -/
def flagMakesWrong : ChangeSpec := { name := "flagMakes", fn := fun _ => fun
  | [d] => { results := [.lit (.bool false)], args := [d] }
  | _ => none }
def FlagMakesWrongFalsely : Prop := flagMakesRow.holds Try.pinned (OpenSpec.ofChange flagMakesWrong)

/-- 'posthornlaw06.FlagOnce': WHATEVER THE INPUT: true; the input reads as it did. -/
def flagOnceSpec : ChangeSpec := { name := "flagOnce", fn := fun _ => fun
  | [d] => { results := [.lit (.bool true)], args := [d] }
  | _ => none }
def flagOnceRow : OpenClaim := { program := "ytfglfoapgpghkaa", sum := "ba9bef556888ce01b34bfffbd5138490c1c54f1237367d0ab946a282f31ea795", func := "posthorn/posthornlaw06.FlagOnce", spec := "flagOnce", inPlace := ["internal/bytealg.IndexByteString", "internal/bytealg.abigen_runtime_cmpstring", "internal/abi.NoEscape", "internal/bytealg.MakeNoZero"], unfollowed := true, recurses := true, apart := false }
def FlagOnceSaid : Prop := flagOnceRow.holds Try.pinned (OpenSpec.ofChange flagOnceSpec)

/-- ITS FALSE NEIGHBOUR: 'it returns false'. Refute it at one input. -/
def flagOnceWrong : ChangeSpec := { name := "flagOnce", fn := fun _ => fun
  | [d] => { results := [.lit (.bool false)], args := [d] }
  | _ => none }
def FlagOnceWrongFalsely : Prop := flagOnceRow.holds Try.pinned (OpenSpec.ofChange flagOnceWrong)

/-- 'posthornlaw06.FlagNames': WHATEVER THE INPUT: true; the input reads as it did. -/
def flagNamesSpec : ChangeSpec := { name := "flagNames", fn := fun _ => fun
  | [d1, d2] => { results := [.lit (.bool true)], args := [d1, d2] }
  | _ => none }
def flagNamesRow : OpenClaim := { program := "ytfglfoapgpghkaa", sum := "ba9bef556888ce01b34bfffbd5138490c1c54f1237367d0ab946a282f31ea795", func := "posthorn/posthornlaw06.FlagNames", spec := "flagNames", inPlace := ["internal/bytealg.IndexByteString", "internal/bytealg.abigen_runtime_cmpstring", "internal/abi.NoEscape", "internal/bytealg.MakeNoZero"], unfollowed := true, recurses := true, apart := false }
def FlagNamesSaid : Prop := flagNamesRow.holds Try.pinned (OpenSpec.ofChange flagNamesSpec)

/-- ITS FALSE NEIGHBOUR: 'it returns false'. Refute it at one input. -/
def flagNamesWrong : ChangeSpec := { name := "flagNames", fn := fun _ => fun
  | [d1, d2] => { results := [.lit (.bool false)], args := [d1, d2] }
  | _ => none }
def FlagNamesWrongFalsely : Prop := flagNamesRow.holds Try.pinned (OpenSpec.ofChange flagNamesWrong)

/-- 'posthornlaw06.FlagChanges': WHATEVER THE INPUT: true; the input reads as it did. -/
def flagChangesSpec : ChangeSpec := { name := "flagChanges", fn := fun _ => fun
  | [d1, d2, d3] => { results := [.lit (.bool true)], args := [d1, d2, d3] }
  | _ => none }
def flagChangesRow : OpenClaim := { program := "ytfglfoapgpghkaa", sum := "ba9bef556888ce01b34bfffbd5138490c1c54f1237367d0ab946a282f31ea795", func := "posthorn/posthornlaw06.FlagChanges", spec := "flagChanges", inPlace := ["internal/bytealg.abigen_runtime_cmpstring", "internal/bytealg.IndexByteString", "internal/abi.NoEscape", "internal/bytealg.MakeNoZero"], unfollowed := true, recurses := true, apart := false }
def FlagChangesSaid : Prop := flagChangesRow.holds Try.pinned (OpenSpec.ofChange flagChangesSpec)

/-- ITS FALSE NEIGHBOUR: 'it returns false'. Refute it at one input. -/
def flagChangesWrong : ChangeSpec := { name := "flagChanges", fn := fun _ => fun
  | [d1, d2, d3] => { results := [.lit (.bool false)], args := [d1, d2, d3] }
  | _ => none }
def FlagChangesWrongFalsely : Prop := flagChangesRow.holds Try.pinned (OpenSpec.ofChange flagChangesWrong)

/-- 'posthornlaw06.FlagAdds': WHATEVER THE INPUT: true; the input reads as it did. -/
def flagAddsSpec : ChangeSpec := { name := "flagAdds", fn := fun _ => fun
  | [d1, d2, d3] => { results := [.lit (.bool true)], args := [d1, d2, d3] }
  | _ => none }
def flagAddsRow : OpenClaim := { program := "ytfglfoapgpghkaa", sum := "ba9bef556888ce01b34bfffbd5138490c1c54f1237367d0ab946a282f31ea795", func := "posthorn/posthornlaw06.FlagAdds", spec := "flagAdds", inPlace := ["internal/bytealg.IndexByteString", "internal/bytealg.abigen_runtime_cmpstring", "internal/abi.NoEscape", "internal/bytealg.MakeNoZero"], unfollowed := true, recurses := true, apart := false }
def FlagAddsSaid : Prop := flagAddsRow.holds Try.pinned (OpenSpec.ofChange flagAddsSpec)

/-- ITS FALSE NEIGHBOUR: 'it returns false'. Refute it at one input. -/
def flagAddsWrong : ChangeSpec := { name := "flagAdds", fn := fun _ => fun
  | [d1, d2, d3] => { results := [.lit (.bool false)], args := [d1, d2, d3] }
  | _ => none }
def FlagAddsWrongFalsely : Prop := flagAddsRow.holds Try.pinned (OpenSpec.ofChange flagAddsWrong)

/- THE SECOND FORM. 'bulk': how many values and letters a reading holds, each counted each time it is reached (what is shared counts as often as it is met; a slice's spare places count too). A statement '..UptoSaid' is the law's where the arguments, and the package variables that the reading takes, are together of bulk at most 1048576: NARROWER than '..Said'. Prove '..Said' where nothing that the law and all that it calls make is longer than what came in: it says more and counts as full. Else prove '..UptoSaid'. A law counts once. -/
mutual
def uptoBulk {H : Type} : DataW H → Nat
  | .lit (.string bytes) => bytes.length + 1
  | .lit _ => 1
  | .nil => 1
  | .ptr d => uptoBulk d + 1
  | .slice elems spare => uptoBulkAll elems + uptoBulkAll spare + 1
  | .agg parts => uptoBulkAll parts + 1
  | .iface _ d => uptoBulk d + 1
  | .map entries => uptoBulkEntries entries + 1
  | .held _ => 1
def uptoBulkAll {H : Type} : List (DataW H) → Nat
  | [] => 0
  | d :: r => uptoBulk d + uptoBulkAll r
def uptoBulkEntries {H : Type} : List (Lit × DataW H) → Nat
  | [] => 0
  | x :: r => uptoBulkEntry x + uptoBulkEntries r
def uptoBulkEntry {H : Type} : Lit × DataW H → Nat
  | (.string bytes, d) => bytes.length + uptoBulk d + 1
  | (_, d) => uptoBulk d + 1
 end
def uptoSmall : (H : Type) → List (DataW H) → Bool := fun _ ds => decide (uptoBulkAll ds ≤ 1048576)
def OpenSpec.upto (s : _root_.Go.ChangeSpec) : _root_.Go.OpenSpec := { _root_.Go.OpenSpec.ofChange s with cond := some uptoSmall }

/-- 'posthornlaw06.FlagMakes', WHERE WHAT IT READS IS OF BULK AT MOST 1048576: true; the input reads as it did. -/
def flagMakesUptoRow : OpenClaim := { program := "ytfglfoapgpghkaa", sum := "ba9bef556888ce01b34bfffbd5138490c1c54f1237367d0ab946a282f31ea795", func := "posthorn/posthornlaw06.FlagMakes", spec := "flagMakes", inPlace := ["internal/bytealg.IndexByteString", "internal/bytealg.abigen_runtime_cmpstring", "internal/abi.NoEscape", "internal/bytealg.MakeNoZero"], unfollowed := true, recurses := true, apart := false, narrowed := true }
def FlagMakesUptoSaid : Prop := flagMakesUptoRow.holds Try.pinned (OpenSpec.upto flagMakesSpec)

/-- 'posthornlaw06.FlagOnce', WHERE WHAT IT READS IS OF BULK AT MOST 1048576: true; the input reads as it did. -/
def flagOnceUptoRow : OpenClaim := { program := "ytfglfoapgpghkaa", sum := "ba9bef556888ce01b34bfffbd5138490c1c54f1237367d0ab946a282f31ea795", func := "posthorn/posthornlaw06.FlagOnce", spec := "flagOnce", inPlace := ["internal/bytealg.IndexByteString", "internal/bytealg.abigen_runtime_cmpstring", "internal/abi.NoEscape", "internal/bytealg.MakeNoZero"], unfollowed := true, recurses := true, apart := false, narrowed := true }
def FlagOnceUptoSaid : Prop := flagOnceUptoRow.holds Try.pinned (OpenSpec.upto flagOnceSpec)

/-- 'posthornlaw06.FlagNames', WHERE WHAT IT READS IS OF BULK AT MOST 1048576: true; the input reads as it did. -/
def flagNamesUptoRow : OpenClaim := { program := "ytfglfoapgpghkaa", sum := "ba9bef556888ce01b34bfffbd5138490c1c54f1237367d0ab946a282f31ea795", func := "posthorn/posthornlaw06.FlagNames", spec := "flagNames", inPlace := ["internal/bytealg.IndexByteString", "internal/bytealg.abigen_runtime_cmpstring", "internal/abi.NoEscape", "internal/bytealg.MakeNoZero"], unfollowed := true, recurses := true, apart := false, narrowed := true }
def FlagNamesUptoSaid : Prop := flagNamesUptoRow.holds Try.pinned (OpenSpec.upto flagNamesSpec)

/-- 'posthornlaw06.FlagChanges', WHERE WHAT IT READS IS OF BULK AT MOST 1048576: true; the input reads as it did. -/
def flagChangesUptoRow : OpenClaim := { program := "ytfglfoapgpghkaa", sum := "ba9bef556888ce01b34bfffbd5138490c1c54f1237367d0ab946a282f31ea795", func := "posthorn/posthornlaw06.FlagChanges", spec := "flagChanges", inPlace := ["internal/bytealg.abigen_runtime_cmpstring", "internal/bytealg.IndexByteString", "internal/abi.NoEscape", "internal/bytealg.MakeNoZero"], unfollowed := true, recurses := true, apart := false, narrowed := true }
def FlagChangesUptoSaid : Prop := flagChangesUptoRow.holds Try.pinned (OpenSpec.upto flagChangesSpec)

/-- 'posthornlaw06.FlagAdds', WHERE WHAT IT READS IS OF BULK AT MOST 1048576: true; the input reads as it did. -/
def flagAddsUptoRow : OpenClaim := { program := "ytfglfoapgpghkaa", sum := "ba9bef556888ce01b34bfffbd5138490c1c54f1237367d0ab946a282f31ea795", func := "posthorn/posthornlaw06.FlagAdds", spec := "flagAdds", inPlace := ["internal/bytealg.IndexByteString", "internal/bytealg.abigen_runtime_cmpstring", "internal/abi.NoEscape", "internal/bytealg.MakeNoZero"], unfollowed := true, recurses := true, apart := false, narrowed := true }
def FlagAddsUptoSaid : Prop := flagAddsUptoRow.holds Try.pinned (OpenSpec.upto flagAddsSpec)

end Rows
end Go.Proofs.Ytfglfoapgpghkaa
