/-
  No cell of these rows narrows 'for every input' (looked for: loops, veiled, ifaces, maps, wideKeys, modest, calm, conditions, laid).
  DERIVED. THE GIVEN ROWS OF THIS SEAT. 8 by the template 'for every input the law returns true; each argument reads behind the call as it read before'; 0 by the template 'total and deterministic' (their statements: YtdobbfjmlnlieaaGreatTotals.lean).
  GIVEN WITH THE SEED: the statements are not yours to turn. If you find one false, say at which input.
  Laid BY PROGRAM, IN A SANDBOX (cutbox-rows.mjs): the forced cells as the released guide's own fill.sh prints them over the translation 495506c372a329d1… (all of the seat's roots in one cut). By AI agents, Wed Nov 11 2026. No macro, syntax, notation, axiom, sorry.
-/
import Derived.Test.YtdobbfjmlnlieaaGreatChecked
import GoSem.Claim
import GoSem.ClaimJoined
import GoSem.ClaimMapViews
import Derived.JoinedTies
import Derived.KernelRfl
namespace Go.Proofs.YtdobbfjmlnlieaaGreat
/- THE CELL 'sum', in the pinned program and in every row, IS THE sha256 OF THE DUMP (.gsa) THAT YtdobbfjmlnlieaaGreatProg.lean LOADS. Nothing in Lean hashes anything: it is a label: what it is worth is what the hold of that sum in a sandbox is worth. -/
noncomputable def Tryz.pinned : Pinned := { name := "ytdobbfjmlnlieaagreat", sum := "495506c372a329d1056a6d245cbc748f1aa291d384058564ebc5b7b83f348f39", checked := Tryz.checked }
namespace Rows
def none {H : Type} : Left H := { results := [], args := [] }

/-- 'posthornlaw18.MailApplies': WHATEVER THE INPUT: true; the input reads as it did. -/
def mailAppliesSpec : ChangeSpec := { name := "mailApplies", fn := fun _ => fun
  | [d1, d2] => { results := [.lit (.bool true)], args := [d1, d2] }
  | _ => none }
def mailAppliesRow : OpenClaim := { program := "ytdobbfjmlnlieaagreat", sum := "495506c372a329d1056a6d245cbc748f1aa291d384058564ebc5b7b83f348f39", func := "posthorn/posthornlaw18.MailApplies", spec := "mailApplies", inPlace := ["internal/bytealg.IndexByteString", "internal/bytealg.abigen_runtime_cmpstring"], unfollowed := true, recurses := true, plainKeys := false, apart := false }
def MailAppliesSaid : Prop := mailAppliesRow.holds Tryz.pinned (OpenSpec.ofChange mailAppliesSpec)

/-- ITS FALSE NEIGHBOUR: 'it returns false'. Refute it at one input. -/
def mailAppliesWrong : ChangeSpec := { name := "mailApplies", fn := fun _ => fun
  | [d1, d2] => { results := [.lit (.bool false)], args := [d1, d2] }
  | _ => none }
def MailAppliesWrongFalsely : Prop := mailAppliesRow.holds Tryz.pinned (OpenSpec.ofChange mailAppliesWrong)

/-- 'posthornlaw18.MailOnce': WHATEVER THE INPUT: true; the input reads as it did. -/
def mailOnceSpec : ChangeSpec := { name := "mailOnce", fn := fun _ => fun
  | [d1, d2, d3] => { results := [.lit (.bool true)], args := [d1, d2, d3] }
  | _ => none }
def mailOnceRow : OpenClaim := { program := "ytdobbfjmlnlieaagreat", sum := "495506c372a329d1056a6d245cbc748f1aa291d384058564ebc5b7b83f348f39", func := "posthorn/posthornlaw18.MailOnce", spec := "mailOnce", inPlace := ["internal/bytealg.IndexByteString", "internal/bytealg.abigen_runtime_cmpstring"], unfollowed := true, recurses := true, plainKeys := false, apart := false }
def MailOnceSaid : Prop := mailOnceRow.holds Tryz.pinned (OpenSpec.ofChange mailOnceSpec)

/-- ITS FALSE NEIGHBOUR: 'it returns false'. Refute it at one input. -/
def mailOnceWrong : ChangeSpec := { name := "mailOnce", fn := fun _ => fun
  | [d1, d2, d3] => { results := [.lit (.bool false)], args := [d1, d2, d3] }
  | _ => none }
def MailOnceWrongFalsely : Prop := mailOnceRow.holds Tryz.pinned (OpenSpec.ofChange mailOnceWrong)

/-- 'posthornlaw18.MailNumbers': WHATEVER THE INPUT: true; the input reads as it did. -/
def mailNumbersSpec : ChangeSpec := { name := "mailNumbers", fn := fun _ => fun
  | [d1, d2] => { results := [.lit (.bool true)], args := [d1, d2] }
  | _ => none }
def mailNumbersRow : OpenClaim := { program := "ytdobbfjmlnlieaagreat", sum := "495506c372a329d1056a6d245cbc748f1aa291d384058564ebc5b7b83f348f39", func := "posthorn/posthornlaw18.MailNumbers", spec := "mailNumbers", inPlace := ["internal/bytealg.IndexByteString", "internal/bytealg.abigen_runtime_cmpstring"], unfollowed := true, recurses := true, plainKeys := false, apart := false }
def MailNumbersSaid : Prop := mailNumbersRow.holds Tryz.pinned (OpenSpec.ofChange mailNumbersSpec)

/-- ITS FALSE NEIGHBOUR: 'it returns false'. Refute it at one input. -/
def mailNumbersWrong : ChangeSpec := { name := "mailNumbers", fn := fun _ => fun
  | [d1, d2] => { results := [.lit (.bool false)], args := [d1, d2] }
  | _ => none }
def MailNumbersWrongFalsely : Prop := mailNumbersRow.holds Tryz.pinned (OpenSpec.ofChange mailNumbersWrong)

/-- 'posthornlaw18.MailApart': WHATEVER THE INPUT: true; the input reads as it did. -/
def mailApartSpec : ChangeSpec := { name := "mailApart", fn := fun _ => fun
  | [d1, d2] => { results := [.lit (.bool true)], args := [d1, d2] }
  | _ => none }
def mailApartRow : OpenClaim := { program := "ytdobbfjmlnlieaagreat", sum := "495506c372a329d1056a6d245cbc748f1aa291d384058564ebc5b7b83f348f39", func := "posthorn/posthornlaw18.MailApart", spec := "mailApart", inPlace := ["internal/bytealg.IndexByteString", "internal/bytealg.abigen_runtime_cmpstring"], unfollowed := true, recurses := true, plainKeys := false, apart := false }
def MailApartSaid : Prop := mailApartRow.holds Tryz.pinned (OpenSpec.ofChange mailApartSpec)

/-- ITS FALSE NEIGHBOUR: 'it returns false'. Refute it at one input. -/
def mailApartWrong : ChangeSpec := { name := "mailApart", fn := fun _ => fun
  | [d1, d2] => { results := [.lit (.bool false)], args := [d1, d2] }
  | _ => none }
def MailApartWrongFalsely : Prop := mailApartRow.holds Tryz.pinned (OpenSpec.ofChange mailApartWrong)

/-- 'posthornlaw18.MailStores': WHATEVER THE INPUT: true; the input reads as it did. -/
def mailStoresSpec : ChangeSpec := { name := "mailStores", fn := fun _ => fun
  | [d1, d2] => { results := [.lit (.bool true)], args := [d1, d2] }
  | _ => none }
def mailStoresRow : OpenClaim := { program := "ytdobbfjmlnlieaagreat", sum := "495506c372a329d1056a6d245cbc748f1aa291d384058564ebc5b7b83f348f39", func := "posthorn/posthornlaw18.MailStores", spec := "mailStores", inPlace := ["internal/bytealg.IndexByteString", "internal/bytealg.abigen_runtime_cmpstring"], unfollowed := true, recurses := true, plainKeys := false, apart := false }
def MailStoresSaid : Prop := mailStoresRow.holds Tryz.pinned (OpenSpec.ofChange mailStoresSpec)

/-- ITS FALSE NEIGHBOUR: 'it returns false'. Refute it at one input. -/
def mailStoresWrong : ChangeSpec := { name := "mailStores", fn := fun _ => fun
  | [d1, d2] => { results := [.lit (.bool false)], args := [d1, d2] }
  | _ => none }
def MailStoresWrongFalsely : Prop := mailStoresRow.holds Tryz.pinned (OpenSpec.ofChange mailStoresWrong)

/-- 'posthornlaw18.MailCopies': WHATEVER THE INPUT: true; the input reads as it did. -/
def mailCopiesSpec : ChangeSpec := { name := "mailCopies", fn := fun _ => fun
  | [d1, d2] => { results := [.lit (.bool true)], args := [d1, d2] }
  | _ => none }
def mailCopiesRow : OpenClaim := { program := "ytdobbfjmlnlieaagreat", sum := "495506c372a329d1056a6d245cbc748f1aa291d384058564ebc5b7b83f348f39", func := "posthorn/posthornlaw18.MailCopies", spec := "mailCopies", inPlace := ["internal/bytealg.IndexByteString", "internal/bytealg.abigen_runtime_cmpstring"], unfollowed := true, recurses := true, plainKeys := false, apart := false }
def MailCopiesSaid : Prop := mailCopiesRow.holds Tryz.pinned (OpenSpec.ofChange mailCopiesSpec)

/-- ITS FALSE NEIGHBOUR: 'it returns false'. Refute it at one input. -/
def mailCopiesWrong : ChangeSpec := { name := "mailCopies", fn := fun _ => fun
  | [d1, d2] => { results := [.lit (.bool false)], args := [d1, d2] }
  | _ => none }
def MailCopiesWrongFalsely : Prop := mailCopiesRow.holds Tryz.pinned (OpenSpec.ofChange mailCopiesWrong)

/-- 'posthornlaw18.MailRights': WHATEVER THE INPUT: true; the input reads as it did. -/
def mailRightsSpec : ChangeSpec := { name := "mailRights", fn := fun _ => fun
  | [d1, d2] => { results := [.lit (.bool true)], args := [d1, d2] }
  | _ => none }
def mailRightsRow : OpenClaim := { program := "ytdobbfjmlnlieaagreat", sum := "495506c372a329d1056a6d245cbc748f1aa291d384058564ebc5b7b83f348f39", func := "posthorn/posthornlaw18.MailRights", spec := "mailRights", inPlace := ["internal/bytealg.IndexByteString", "internal/bytealg.abigen_runtime_cmpstring"], unfollowed := true, recurses := true, plainKeys := false, apart := false }
def MailRightsSaid : Prop := mailRightsRow.holds Tryz.pinned (OpenSpec.ofChange mailRightsSpec)

/-- ITS FALSE NEIGHBOUR: 'it returns false'. Refute it at one input. -/
def mailRightsWrong : ChangeSpec := { name := "mailRights", fn := fun _ => fun
  | [d1, d2] => { results := [.lit (.bool false)], args := [d1, d2] }
  | _ => none }
def MailRightsWrongFalsely : Prop := mailRightsRow.holds Tryz.pinned (OpenSpec.ofChange mailRightsWrong)

/-- 'posthornlaw18.MailSpent': WHATEVER THE INPUT: true; the input reads as it did. -/
def mailSpentSpec : ChangeSpec := { name := "mailSpent", fn := fun _ => fun
  | [d1, d2, d3] => { results := [.lit (.bool true)], args := [d1, d2, d3] }
  | _ => none }
def mailSpentRow : OpenClaim := { program := "ytdobbfjmlnlieaagreat", sum := "495506c372a329d1056a6d245cbc748f1aa291d384058564ebc5b7b83f348f39", func := "posthorn/posthornlaw18.MailSpent", spec := "mailSpent", inPlace := ["internal/bytealg.IndexByteString", "internal/bytealg.abigen_runtime_cmpstring"], unfollowed := true, recurses := true, plainKeys := false, apart := false }
def MailSpentSaid : Prop := mailSpentRow.holds Tryz.pinned (OpenSpec.ofChange mailSpentSpec)

/-- ITS FALSE NEIGHBOUR: 'it returns false'. Refute it at one input. -/
def mailSpentWrong : ChangeSpec := { name := "mailSpent", fn := fun _ => fun
  | [d1, d2, d3] => { results := [.lit (.bool false)], args := [d1, d2, d3] }
  | _ => none }
def MailSpentWrongFalsely : Prop := mailSpentRow.holds Tryz.pinned (OpenSpec.ofChange mailSpentWrong)

/- THE SECOND FORM. 'bulk': how many values and letters a reading holds, each counted each time it is reached (what is shared counts as often as it is met; a slice's spare places count too). A statement '..UptoSaid' is the law's where the arguments, and the package variables that the reading takes, are together of bulk at most 1048576: NARROWER than '..Said'. Prove '..Said' where nothing that the law and all that it calls make is longer than what came in: it says more and counts as full. Else prove '..UptoSaid'. A law counts once. -/
mutual
def uptoBulk {H : Type} : DataW H → Nat
  | .lit (.string bytes) => bytes.length + 1
  | .lit _ => 1
  | .nil => 1
  | .ptr d => uptoBulk d + 1
  | .slice elems spare => uptoBulkAll elems + uptoBulkAll spare + 1
  | .agg parts => uptoBulkAll parts + 1
  | .iface _ d => uptoBulk d + 1
  | .map entries => uptoBulkEntries entries + 1
  | .held _ => 1
def uptoBulkAll {H : Type} : List (DataW H) → Nat
  | [] => 0
  | d :: r => uptoBulk d + uptoBulkAll r
def uptoBulkEntries {H : Type} : List (Lit × DataW H) → Nat
  | [] => 0
  | x :: r => uptoBulkEntry x + uptoBulkEntries r
def uptoBulkEntry {H : Type} : Lit × DataW H → Nat
  | (.string bytes, d) => bytes.length + uptoBulk d + 1
  | (_, d) => uptoBulk d + 1
 end
def uptoSmall : (H : Type) → List (DataW H) → Bool := fun _ ds => decide (uptoBulkAll ds ≤ 1048576)
def OpenSpec.upto (s : _root_.Go.ChangeSpec) : _root_.Go.OpenSpec := { _root_.Go.OpenSpec.ofChange s with cond := some uptoSmall }

/-- 'posthornlaw18.MailApplies', WHERE WHAT IT READS IS OF BULK AT MOST 1048576: true; the input reads as it did. -/
def mailAppliesUptoRow : OpenClaim := { program := "ytdobbfjmlnlieaagreat", sum := "495506c372a329d1056a6d245cbc748f1aa291d384058564ebc5b7b83f348f39", func := "posthorn/posthornlaw18.MailApplies", spec := "mailApplies", inPlace := ["internal/bytealg.IndexByteString", "internal/bytealg.abigen_runtime_cmpstring"], unfollowed := true, recurses := true, plainKeys := false, apart := false, narrowed := true }
def MailAppliesUptoSaid : Prop := mailAppliesUptoRow.holds Tryz.pinned (OpenSpec.upto mailAppliesSpec)

/-- 'posthornlaw18.MailOnce', WHERE WHAT IT READS IS OF BULK AT MOST 1048576: true; the input reads as it did. -/
def mailOnceUptoRow : OpenClaim := { program := "ytdobbfjmlnlieaagreat", sum := "495506c372a329d1056a6d245cbc748f1aa291d384058564ebc5b7b83f348f39", func := "posthorn/posthornlaw18.MailOnce", spec := "mailOnce", inPlace := ["internal/bytealg.IndexByteString", "internal/bytealg.abigen_runtime_cmpstring"], unfollowed := true, recurses := true, plainKeys := false, apart := false, narrowed := true }
def MailOnceUptoSaid : Prop := mailOnceUptoRow.holds Tryz.pinned (OpenSpec.upto mailOnceSpec)

/-- 'posthornlaw18.MailNumbers', WHERE WHAT IT READS IS OF BULK AT MOST 1048576: true; the input reads as it did. -/
def mailNumbersUptoRow : OpenClaim := { program := "ytdobbfjmlnlieaagreat", sum := "495506c372a329d1056a6d245cbc748f1aa291d384058564ebc5b7b83f348f39", func := "posthorn/posthornlaw18.MailNumbers", spec := "mailNumbers", inPlace := ["internal/bytealg.IndexByteString", "internal/bytealg.abigen_runtime_cmpstring"], unfollowed := true, recurses := true, plainKeys := false, apart := false, narrowed := true }
def MailNumbersUptoSaid : Prop := mailNumbersUptoRow.holds Tryz.pinned (OpenSpec.upto mailNumbersSpec)

/-- 'posthornlaw18.MailApart', WHERE WHAT IT READS IS OF BULK AT MOST 1048576: true; the input reads as it did. -/
def mailApartUptoRow : OpenClaim := { program := "ytdobbfjmlnlieaagreat", sum := "495506c372a329d1056a6d245cbc748f1aa291d384058564ebc5b7b83f348f39", func := "posthorn/posthornlaw18.MailApart", spec := "mailApart", inPlace := ["internal/bytealg.IndexByteString", "internal/bytealg.abigen_runtime_cmpstring"], unfollowed := true, recurses := true, plainKeys := false, apart := false, narrowed := true }
def MailApartUptoSaid : Prop := mailApartUptoRow.holds Tryz.pinned (OpenSpec.upto mailApartSpec)

/-- 'posthornlaw18.MailStores', WHERE WHAT IT READS IS OF BULK AT MOST 1048576: true; the input reads as it did. -/
def mailStoresUptoRow : OpenClaim := { program := "ytdobbfjmlnlieaagreat", sum := "495506c372a329d1056a6d245cbc748f1aa291d384058564ebc5b7b83f348f39", func := "posthorn/posthornlaw18.MailStores", spec := "mailStores", inPlace := ["internal/bytealg.IndexByteString", "internal/bytealg.abigen_runtime_cmpstring"], unfollowed := true, recurses := true, plainKeys := false, apart := false, narrowed := true }
def MailStoresUptoSaid : Prop := mailStoresUptoRow.holds Tryz.pinned (OpenSpec.upto mailStoresSpec)

/-- 'posthornlaw18.MailCopies', WHERE WHAT IT READS IS OF BULK AT MOST 1048576: true; the input reads as it did. -/
def mailCopiesUptoRow : OpenClaim := { program := "ytdobbfjmlnlieaagreat", sum := "495506c372a329d1056a6d245cbc748f1aa291d384058564ebc5b7b83f348f39", func := "posthorn/posthornlaw18.MailCopies", spec := "mailCopies", inPlace := ["internal/bytealg.IndexByteString", "internal/bytealg.abigen_runtime_cmpstring"], unfollowed := true, recurses := true, plainKeys := false, apart := false, narrowed := true }
def MailCopiesUptoSaid : Prop := mailCopiesUptoRow.holds Tryz.pinned (OpenSpec.upto mailCopiesSpec)

/-- 'posthornlaw18.MailRights', WHERE WHAT IT READS IS OF BULK AT MOST 1048576: true; the input reads as it did. -/
def mailRightsUptoRow : OpenClaim := { program := "ytdobbfjmlnlieaagreat", sum := "495506c372a329d1056a6d245cbc748f1aa291d384058564ebc5b7b83f348f39", func := "posthorn/posthornlaw18.MailRights", spec := "mailRights", inPlace := ["internal/bytealg.IndexByteString", "internal/bytealg.abigen_runtime_cmpstring"], unfollowed := true, recurses := true, plainKeys := false, apart := false, narrowed := true }
def MailRightsUptoSaid : Prop := mailRightsUptoRow.holds Tryz.pinned (OpenSpec.upto mailRightsSpec)

/-- 'posthornlaw18.MailSpent', WHERE WHAT IT READS IS OF BULK AT MOST 1048576: true; the input reads as it did. -/
def mailSpentUptoRow : OpenClaim := { program := "ytdobbfjmlnlieaagreat", sum := "495506c372a329d1056a6d245cbc748f1aa291d384058564ebc5b7b83f348f39", func := "posthorn/posthornlaw18.MailSpent", spec := "mailSpent", inPlace := ["internal/bytealg.IndexByteString", "internal/bytealg.abigen_runtime_cmpstring"], unfollowed := true, recurses := true, plainKeys := false, apart := false, narrowed := true }
def MailSpentUptoSaid : Prop := mailSpentUptoRow.holds Tryz.pinned (OpenSpec.upto mailSpentSpec)

end Rows
end Go.Proofs.YtdobbfjmlnlieaaGreat
