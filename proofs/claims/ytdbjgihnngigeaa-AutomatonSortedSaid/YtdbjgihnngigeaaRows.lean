/-
  No cell of these rows narrows 'for every input' (looked for: loops, veiled, ifaces, maps, wideKeys, modest, calm, conditions, laid).
  DERIVED. THE GIVEN ROWS OF THIS SEAT. 5 by the template 'for every input the law returns true; each argument reads behind the call as it read before'; 0 by the template 'total and deterministic' (their statements: YtdbjgihnngigeaaTotals.lean).
  GIVEN WITH THE SEED: the statements are not yours to turn. If you find one false, say at which input.
  Laid BY PROGRAM, IN A SANDBOX (cutbox-rows.mjs): the forced cells as the released guide's own fill.sh prints them over the translation 842b49cffee2d91b… (all of the seat's roots in one cut). By AI agents, Wed Nov 11 2026. No macro, syntax, notation, axiom, sorry.
-/
import Derived.Test.YtdbjgihnngigeaaChecked
import GoSem.Claim
import GoSem.ClaimJoined
import GoSem.ClaimMapViews
import Derived.JoinedTies
import Derived.KernelRfl
namespace Go.Proofs.Ytdbjgihnngigeaa
/- THE CELL 'sum', in the pinned program and in every row, IS THE sha256 OF THE DUMP (.gsa) THAT YtdbjgihnngigeaaProg.lean LOADS. Nothing in Lean hashes anything: it is a label: what it is worth is what the hold of that sum in a sandbox is worth. -/
noncomputable def Try.pinned : Pinned := { name := "ytdbjgihnngigeaa", sum := "842b49cffee2d91b4bfc4848da6a951a2f7312dc8a5566c8a763c09e1931229b", checked := Try.checked }
namespace Rows
def none {H : Type} : Left H := { results := [], args := [] }

/-- 'fullinglaw19.AutomatonExamples': WHATEVER THE INPUT: true; the input reads as it did. -/
def automatonExamplesSpec : ChangeSpec := { name := "automatonExamples", fn := fun _ => fun
  | [] => { results := [.lit (.bool true)], args := [] }
  | _ => none }
def automatonExamplesRow : OpenClaim := { program := "ytdbjgihnngigeaa", sum := "842b49cffee2d91b4bfc4848da6a951a2f7312dc8a5566c8a763c09e1931229b", func := "fulling/fullinglaw19.AutomatonExamples", spec := "automatonExamples", inPlace := ["internal/reflectlite.ValueOf", "internal/reflectlite.Swapper", "(internal/reflectlite.Value).Len"], unfollowed := true, recurses := true, apart := false }
def AutomatonExamplesSaid : Prop := automatonExamplesRow.holds Try.pinned (OpenSpec.ofChange automatonExamplesSpec)

/-- ITS FALSE NEIGHBOUR: 'it returns false'. Refute it at one input. -/
def automatonExamplesWrong : ChangeSpec := { name := "automatonExamples", fn := fun _ => fun
  | [] => { results := [.lit (.bool false)], args := [] }
  | _ => none }
def AutomatonExamplesWrongFalsely : Prop := automatonExamplesRow.holds Try.pinned (OpenSpec.ofChange automatonExamplesWrong)

/-- 'fullinglaw19.AutomatonSound': WHATEVER THE INPUT: true; the input reads as it did. -/
def automatonSoundSpec : ChangeSpec := { name := "automatonSound", fn := fun _ => fun
  | [d1, d2, d3, d4, d5] => { results := [.lit (.bool true)], args := [d1, d2, d3, d4, d5] }
  | _ => none }
def automatonSoundRow : OpenClaim := { program := "ytdbjgihnngigeaa", sum := "842b49cffee2d91b4bfc4848da6a951a2f7312dc8a5566c8a763c09e1931229b", func := "fulling/fullinglaw19.AutomatonSound", spec := "automatonSound", inPlace := ["internal/reflectlite.ValueOf", "internal/reflectlite.Swapper", "(internal/reflectlite.Value).Len"], unfollowed := true, recurses := true, apart := false }
def AutomatonSoundSaid : Prop := automatonSoundRow.holds Try.pinned (OpenSpec.ofChange automatonSoundSpec)

/-- ITS FALSE NEIGHBOUR: 'it returns false'. Refute it at one input. -/
def automatonSoundWrong : ChangeSpec := { name := "automatonSound", fn := fun _ => fun
  | [d1, d2, d3, d4, d5] => { results := [.lit (.bool false)], args := [d1, d2, d3, d4, d5] }
  | _ => none }
def AutomatonSoundWrongFalsely : Prop := automatonSoundRow.holds Try.pinned (OpenSpec.ofChange automatonSoundWrong)

/-- 'fullinglaw19.AutomatonMinimal': WHATEVER THE INPUT: true; the input reads as it did. -/
def automatonMinimalSpec : ChangeSpec := { name := "automatonMinimal", fn := fun _ => fun
  | [d1, d2] => { results := [.lit (.bool true)], args := [d1, d2] }
  | _ => none }
def automatonMinimalRow : OpenClaim := { program := "ytdbjgihnngigeaa", sum := "842b49cffee2d91b4bfc4848da6a951a2f7312dc8a5566c8a763c09e1931229b", func := "fulling/fullinglaw19.AutomatonMinimal", spec := "automatonMinimal", inPlace := ["internal/reflectlite.ValueOf", "internal/reflectlite.Swapper", "(internal/reflectlite.Value).Len"], unfollowed := true, recurses := true, apart := false }
def AutomatonMinimalSaid : Prop := automatonMinimalRow.holds Try.pinned (OpenSpec.ofChange automatonMinimalSpec)

/-- ITS FALSE NEIGHBOUR: 'it returns false'. Refute it at one input. -/
def automatonMinimalWrong : ChangeSpec := { name := "automatonMinimal", fn := fun _ => fun
  | [d1, d2] => { results := [.lit (.bool false)], args := [d1, d2] }
  | _ => none }
def AutomatonMinimalWrongFalsely : Prop := automatonMinimalRow.holds Try.pinned (OpenSpec.ofChange automatonMinimalWrong)

/-- 'fullinglaw19.AutomatonSorted': WHATEVER THE INPUT: true; the input reads as it did. -/
def automatonSortedSpec : ChangeSpec := { name := "automatonSorted", fn := fun _ => fun
  | [d] => { results := [.lit (.bool true)], args := [d] }
  | _ => none }
def automatonSortedRow : OpenClaim := { program := "ytdbjgihnngigeaa", sum := "842b49cffee2d91b4bfc4848da6a951a2f7312dc8a5566c8a763c09e1931229b", func := "fulling/fullinglaw19.AutomatonSorted", spec := "automatonSorted", inPlace := ["internal/reflectlite.ValueOf", "internal/reflectlite.Swapper", "(internal/reflectlite.Value).Len"], unfollowed := true, recurses := true, apart := false }
def AutomatonSortedSaid : Prop := automatonSortedRow.holds Try.pinned (OpenSpec.ofChange automatonSortedSpec)

/-- ITS FALSE NEIGHBOUR: 'it returns false'. Refute it at one input. -/
def automatonSortedWrong : ChangeSpec := { name := "automatonSorted", fn := fun _ => fun
  | [d] => { results := [.lit (.bool false)], args := [d] }
  | _ => none }
def AutomatonSortedWrongFalsely : Prop := automatonSortedRow.holds Try.pinned (OpenSpec.ofChange automatonSortedWrong)

/-- 'fullinglaw19.AutomatonShift': WHATEVER THE INPUT: true; the input reads as it did. -/
def automatonShiftSpec : ChangeSpec := { name := "automatonShift", fn := fun _ => fun
  | [d] => { results := [.lit (.bool true)], args := [d] }
  | _ => none }
def automatonShiftRow : OpenClaim := { program := "ytdbjgihnngigeaa", sum := "842b49cffee2d91b4bfc4848da6a951a2f7312dc8a5566c8a763c09e1931229b", func := "fulling/fullinglaw19.AutomatonShift", spec := "automatonShift", inPlace := ["internal/reflectlite.ValueOf", "internal/reflectlite.Swapper", "(internal/reflectlite.Value).Len"], unfollowed := true, recurses := true, apart := false }
def AutomatonShiftSaid : Prop := automatonShiftRow.holds Try.pinned (OpenSpec.ofChange automatonShiftSpec)

/-- ITS FALSE NEIGHBOUR: 'it returns false'. Refute it at one input. -/
def automatonShiftWrong : ChangeSpec := { name := "automatonShift", fn := fun _ => fun
  | [d] => { results := [.lit (.bool false)], args := [d] }
  | _ => none }
def AutomatonShiftWrongFalsely : Prop := automatonShiftRow.holds Try.pinned (OpenSpec.ofChange automatonShiftWrong)

/- THE SECOND FORM. 'bulk': how many values and letters a reading holds, each counted each time it is reached (what is shared counts as often as it is met; a slice's spare places count too). A statement '..UptoSaid' is the law's where the arguments, and the package variables that the reading takes, are together of bulk at most 1048576: NARROWER than '..Said'. Prove '..Said' where nothing that the law and all that it calls make is longer than what came in: it says more and counts as full. Else prove '..UptoSaid'. A law counts once. -/
mutual
def uptoBulk {H : Type} : DataW H → Nat
  | .lit (.string bytes) => bytes.length + 1
  | .lit _ => 1
  | .nil => 1
  | .ptr d => uptoBulk d + 1
  | .slice elems spare => uptoBulkAll elems + uptoBulkAll spare + 1
  | .agg parts => uptoBulkAll parts + 1
  | .iface _ d => uptoBulk d + 1
  | .map entries => uptoBulkEntries entries + 1
  | .held _ => 1
def uptoBulkAll {H : Type} : List (DataW H) → Nat
  | [] => 0
  | d :: r => uptoBulk d + uptoBulkAll r
def uptoBulkEntries {H : Type} : List (Lit × DataW H) → Nat
  | [] => 0
  | x :: r => uptoBulkEntry x + uptoBulkEntries r
def uptoBulkEntry {H : Type} : Lit × DataW H → Nat
  | (.string bytes, d) => bytes.length + uptoBulk d + 1
  | (_, d) => uptoBulk d + 1
 end
def uptoSmall : (H : Type) → List (DataW H) → Bool := fun _ ds => decide (uptoBulkAll ds ≤ 1048576)
def OpenSpec.upto (s : _root_.Go.ChangeSpec) : _root_.Go.OpenSpec := { _root_.Go.OpenSpec.ofChange s with cond := some uptoSmall }

/-- 'fullinglaw19.AutomatonExamples', WHERE WHAT IT READS IS OF BULK AT MOST 1048576: true; the input reads as it did. -/
def automatonExamplesUptoRow : OpenClaim := { program := "ytdbjgihnngigeaa", sum := "842b49cffee2d91b4bfc4848da6a951a2f7312dc8a5566c8a763c09e1931229b", func := "fulling/fullinglaw19.AutomatonExamples", spec := "automatonExamples", inPlace := ["internal/reflectlite.ValueOf", "internal/reflectlite.Swapper", "(internal/reflectlite.Value).Len"], unfollowed := true, recurses := true, apart := false, narrowed := true }
def AutomatonExamplesUptoSaid : Prop := automatonExamplesUptoRow.holds Try.pinned (OpenSpec.upto automatonExamplesSpec)

/-- 'fullinglaw19.AutomatonSound', WHERE WHAT IT READS IS OF BULK AT MOST 1048576: true; the input reads as it did. -/
def automatonSoundUptoRow : OpenClaim := { program := "ytdbjgihnngigeaa", sum := "842b49cffee2d91b4bfc4848da6a951a2f7312dc8a5566c8a763c09e1931229b", func := "fulling/fullinglaw19.AutomatonSound", spec := "automatonSound", inPlace := ["internal/reflectlite.ValueOf", "internal/reflectlite.Swapper", "(internal/reflectlite.Value).Len"], unfollowed := true, recurses := true, apart := false, narrowed := true }
def AutomatonSoundUptoSaid : Prop := automatonSoundUptoRow.holds Try.pinned (OpenSpec.upto automatonSoundSpec)

/-- 'fullinglaw19.AutomatonMinimal', WHERE WHAT IT READS IS OF BULK AT MOST 1048576: true; the input reads as it did. -/
def automatonMinimalUptoRow : OpenClaim := { program := "ytdbjgihnngigeaa", sum := "842b49cffee2d91b4bfc4848da6a951a2f7312dc8a5566c8a763c09e1931229b", func := "fulling/fullinglaw19.AutomatonMinimal", spec := "automatonMinimal", inPlace := ["internal/reflectlite.ValueOf", "internal/reflectlite.Swapper", "(internal/reflectlite.Value).Len"], unfollowed := true, recurses := true, apart := false, narrowed := true }
def AutomatonMinimalUptoSaid : Prop := automatonMinimalUptoRow.holds Try.pinned (OpenSpec.upto automatonMinimalSpec)

/-- 'fullinglaw19.AutomatonSorted', WHERE WHAT IT READS IS OF BULK AT MOST 1048576: true; the input reads as it did. -/
def automatonSortedUptoRow : OpenClaim := { program := "ytdbjgihnngigeaa", sum := "842b49cffee2d91b4bfc4848da6a951a2f7312dc8a5566c8a763c09e1931229b", func := "fulling/fullinglaw19.AutomatonSorted", spec := "automatonSorted", inPlace := ["internal/reflectlite.ValueOf", "internal/reflectlite.Swapper", "(internal/reflectlite.Value).Len"], unfollowed := true, recurses := true, apart := false, narrowed := true }
def AutomatonSortedUptoSaid : Prop := automatonSortedUptoRow.holds Try.pinned (OpenSpec.upto automatonSortedSpec)

/-- 'fullinglaw19.AutomatonShift', WHERE WHAT IT READS IS OF BULK AT MOST 1048576: true; the input reads as it did. -/
def automatonShiftUptoRow : OpenClaim := { program := "ytdbjgihnngigeaa", sum := "842b49cffee2d91b4bfc4848da6a951a2f7312dc8a5566c8a763c09e1931229b", func := "fulling/fullinglaw19.AutomatonShift", spec := "automatonShift", inPlace := ["internal/reflectlite.ValueOf", "internal/reflectlite.Swapper", "(internal/reflectlite.Value).Len"], unfollowed := true, recurses := true, apart := false, narrowed := true }
def AutomatonShiftUptoSaid : Prop := automatonShiftUptoRow.holds Try.pinned (OpenSpec.upto automatonShiftSpec)

end Rows
end Go.Proofs.Ytdbjgihnngigeaa
