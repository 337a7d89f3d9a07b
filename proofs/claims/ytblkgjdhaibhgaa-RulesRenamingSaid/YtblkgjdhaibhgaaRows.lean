/-
  No cell of these rows narrows 'for every input' (looked for: loops, veiled, ifaces, maps, wideKeys, modest, calm, conditions, laid).
  DERIVED. THE GIVEN ROWS OF THIS SEAT. 4 by the template 'for every input the law returns true; each argument reads behind the call as it read before'; 0 by the template 'total and deterministic' (their statements: YtblkgjdhaibhgaaTotals.lean).
  GIVEN WITH THE SEED: the statements are not yours to turn. If you find one false, say at which input.
  Laid BY PROGRAM, IN A SANDBOX (cutbox-rows.mjs): the forced cells as the released guide's own fill.sh prints them over the translation 7e25a2dc7f2b3be5… (all of the seat's roots in one cut). By AI agents, Wed Nov 11 2026. No macro, syntax, notation, axiom, sorry.
-/
import Derived.Test.YtblkgjdhaibhgaaChecked
import GoSem.Claim
import GoSem.ClaimJoined
import GoSem.ClaimMapViews
import Derived.JoinedTies
import Derived.KernelRfl
namespace Go.Proofs.Ytblkgjdhaibhgaa
/- THE CELL 'sum', in the pinned program and in every row, IS THE sha256 OF THE DUMP (.gsa) THAT YtblkgjdhaibhgaaProg.lean LOADS. Nothing in Lean hashes anything: it is a label: what it is worth is what the hold of that sum in a sandbox is worth. -/
noncomputable def Try.pinned : Pinned := { name := "ytblkgjdhaibhgaa", sum := "7e25a2dc7f2b3be538730bca412e9686dc6852ca9826c898b1e88be17eaf4414", checked := Try.checked }
namespace Rows
def none {H : Type} : Left H := { results := [], args := [] }

/-- 'fullinglaw17.RulesExamples': WHATEVER THE INPUT: true; the input reads as it did. -/
def rulesExamplesSpec : ChangeSpec := { name := "rulesExamples", fn := fun _ => fun
  | [] => { results := [.lit (.bool true)], args := [] }
  | _ => none }
def rulesExamplesRow : OpenClaim := { program := "ytblkgjdhaibhgaa", sum := "7e25a2dc7f2b3be538730bca412e9686dc6852ca9826c898b1e88be17eaf4414", func := "fulling/fullinglaw17.RulesExamples", spec := "rulesExamples", unfollowed := true, recurses := true, apart := false }
def RulesExamplesSaid : Prop := rulesExamplesRow.holds Try.pinned (OpenSpec.ofChange rulesExamplesSpec)

/-- ITS FALSE NEIGHBOUR: 'it returns false'. Refute it at one input. -/
def rulesExamplesWrong : ChangeSpec := { name := "rulesExamples", fn := fun _ => fun
  | [] => { results := [.lit (.bool false)], args := [] }
  | _ => none }
def RulesExamplesWrongFalsely : Prop := rulesExamplesRow.holds Try.pinned (OpenSpec.ofChange rulesExamplesWrong)

/-- 'fullinglaw17.RulesRoundTrip': WHATEVER THE INPUT: true; the input reads as it did. -/
def rulesRoundTripSpec : ChangeSpec := { name := "rulesRoundTrip", fn := fun _ => fun
  | [d1, d2, d3] => { results := [.lit (.bool true)], args := [d1, d2, d3] }
  | _ => none }
def rulesRoundTripRow : OpenClaim := { program := "ytblkgjdhaibhgaa", sum := "7e25a2dc7f2b3be538730bca412e9686dc6852ca9826c898b1e88be17eaf4414", func := "fulling/fullinglaw17.RulesRoundTrip", spec := "rulesRoundTrip", unfollowed := true, recurses := true, apart := false }
def RulesRoundTripSaid : Prop := rulesRoundTripRow.holds Try.pinned (OpenSpec.ofChange rulesRoundTripSpec)

/-- ITS FALSE NEIGHBOUR: 'it returns false'. Refute it at one input. -/
def rulesRoundTripWrong : ChangeSpec := { name := "rulesRoundTrip", fn := fun _ => fun
  | [d1, d2, d3] => { results := [.lit (.bool false)], args := [d1, d2, d3] }
  | _ => none }
def RulesRoundTripWrongFalsely : Prop := rulesRoundTripRow.holds Try.pinned (OpenSpec.ofChange rulesRoundTripWrong)

/-- 'fullinglaw17.RulesAxiomFile': WHATEVER THE INPUT: true; the input reads as it did. -/
def rulesAxiomFileSpec : ChangeSpec := { name := "rulesAxiomFile", fn := fun _ => fun
  | [d] => { results := [.lit (.bool true)], args := [d] }
  | _ => none }
def rulesAxiomFileRow : OpenClaim := { program := "ytblkgjdhaibhgaa", sum := "7e25a2dc7f2b3be538730bca412e9686dc6852ca9826c898b1e88be17eaf4414", func := "fulling/fullinglaw17.RulesAxiomFile", spec := "rulesAxiomFile", unfollowed := true, recurses := true, apart := false }
def RulesAxiomFileSaid : Prop := rulesAxiomFileRow.holds Try.pinned (OpenSpec.ofChange rulesAxiomFileSpec)

/-- ITS FALSE NEIGHBOUR: 'it returns false'. Refute it at one input. -/
def rulesAxiomFileWrong : ChangeSpec := { name := "rulesAxiomFile", fn := fun _ => fun
  | [d] => { results := [.lit (.bool false)], args := [d] }
  | _ => none }
def RulesAxiomFileWrongFalsely : Prop := rulesAxiomFileRow.holds Try.pinned (OpenSpec.ofChange rulesAxiomFileWrong)

/-- 'fullinglaw17.RulesRenaming': WHATEVER THE INPUT: true; the input reads as it did. -/
def rulesRenamingSpec : ChangeSpec := { name := "rulesRenaming", fn := fun _ => fun
  | [d1, d2, d3] => { results := [.lit (.bool true)], args := [d1, d2, d3] }
  | _ => none }
def rulesRenamingRow : OpenClaim := { program := "ytblkgjdhaibhgaa", sum := "7e25a2dc7f2b3be538730bca412e9686dc6852ca9826c898b1e88be17eaf4414", func := "fulling/fullinglaw17.RulesRenaming", spec := "rulesRenaming", unfollowed := true, recurses := true, apart := false }
def RulesRenamingSaid : Prop := rulesRenamingRow.holds Try.pinned (OpenSpec.ofChange rulesRenamingSpec)

/-- ITS FALSE NEIGHBOUR: 'it returns false'. Refute it at one input. -/
def rulesRenamingWrong : ChangeSpec := { name := "rulesRenaming", fn := fun _ => fun
  | [d1, d2, d3] => { results := [.lit (.bool false)], args := [d1, d2, d3] }
  | _ => none }
def RulesRenamingWrongFalsely : Prop := rulesRenamingRow.holds Try.pinned (OpenSpec.ofChange rulesRenamingWrong)

/- THE SECOND FORM. 'bulk': how many values and letters a reading holds, each counted each time it is reached (what is shared counts as often as it is met; a slice's spare places count too). A statement '..UptoSaid' is the law's where the arguments, and the package variables that the reading takes, are together of bulk at most 1048576: NARROWER than '..Said'. Prove '..Said' where nothing that the law and all that it calls make is longer than what came in: it says more and counts as full. Else prove '..UptoSaid'. A law counts once. -/
mutual
def uptoBulk {H : Type} : DataW H → Nat
  | .lit (.string bytes) => bytes.length + 1
  | .lit _ => 1
  | .nil => 1
  | .ptr d => uptoBulk d + 1
  | .slice elems spare => uptoBulkAll elems + uptoBulkAll spare + 1
  | .agg parts => uptoBulkAll parts + 1
  | .iface _ d => uptoBulk d + 1
  | .map entries => uptoBulkEntries entries + 1
  | .held _ => 1
def uptoBulkAll {H : Type} : List (DataW H) → Nat
  | [] => 0
  | d :: r => uptoBulk d + uptoBulkAll r
def uptoBulkEntries {H : Type} : List (Lit × DataW H) → Nat
  | [] => 0
  | x :: r => uptoBulkEntry x + uptoBulkEntries r
def uptoBulkEntry {H : Type} : Lit × DataW H → Nat
  | (.string bytes, d) => bytes.length + uptoBulk d + 1
  | (_, d) => uptoBulk d + 1
 end
def uptoSmall : (H : Type) → List (DataW H) → Bool := fun _ ds => decide (uptoBulkAll ds ≤ 1048576)
def OpenSpec.upto (s : _root_.Go.ChangeSpec) : _root_.Go.OpenSpec := { _root_.Go.OpenSpec.ofChange s with cond := some uptoSmall }

/-- 'fullinglaw17.RulesExamples', WHERE WHAT IT READS IS OF BULK AT MOST 1048576: true; the input reads as it did. -/
def rulesExamplesUptoRow : OpenClaim := { program := "ytblkgjdhaibhgaa", sum := "7e25a2dc7f2b3be538730bca412e9686dc6852ca9826c898b1e88be17eaf4414", func := "fulling/fullinglaw17.RulesExamples", spec := "rulesExamples", unfollowed := true, recurses := true, apart := false, narrowed := true }
def RulesExamplesUptoSaid : Prop := rulesExamplesUptoRow.holds Try.pinned (OpenSpec.upto rulesExamplesSpec)

/-- 'fullinglaw17.RulesRoundTrip', WHERE WHAT IT READS IS OF BULK AT MOST 1048576: true; the input reads as it did. -/
def rulesRoundTripUptoRow : OpenClaim := { program := "ytblkgjdhaibhgaa", sum := "7e25a2dc7f2b3be538730bca412e9686dc6852ca9826c898b1e88be17eaf4414", func := "fulling/fullinglaw17.RulesRoundTrip", spec := "rulesRoundTrip", unfollowed := true, recurses := true, apart := false, narrowed := true }
def RulesRoundTripUptoSaid : Prop := rulesRoundTripUptoRow.holds Try.pinned (OpenSpec.upto rulesRoundTripSpec)

/-- 'fullinglaw17.RulesAxiomFile', WHERE WHAT IT READS IS OF BULK AT MOST 1048576: true; the input reads as it did. -/
def rulesAxiomFileUptoRow : OpenClaim := { program := "ytblkgjdhaibhgaa", sum := "7e25a2dc7f2b3be538730bca412e9686dc6852ca9826c898b1e88be17eaf4414", func := "fulling/fullinglaw17.RulesAxiomFile", spec := "rulesAxiomFile", unfollowed := true, recurses := true, apart := false, narrowed := true }
def RulesAxiomFileUptoSaid : Prop := rulesAxiomFileUptoRow.holds Try.pinned (OpenSpec.upto rulesAxiomFileSpec)

/-- 'fullinglaw17.RulesRenaming', WHERE WHAT IT READS IS OF BULK AT MOST 1048576: true; the input reads as it did. -/
def rulesRenamingUptoRow : OpenClaim := { program := "ytblkgjdhaibhgaa", sum := "7e25a2dc7f2b3be538730bca412e9686dc6852ca9826c898b1e88be17eaf4414", func := "fulling/fullinglaw17.RulesRenaming", spec := "rulesRenaming", unfollowed := true, recurses := true, apart := false, narrowed := true }
def RulesRenamingUptoSaid : Prop := rulesRenamingUptoRow.holds Try.pinned (OpenSpec.upto rulesRenamingSpec)

end Rows
end Go.Proofs.Ytblkgjdhaibhgaa
