/-
  No cell of these rows narrows 'for every input' (looked for: loops, veiled, ifaces, maps, wideKeys, modest, calm, conditions, laid).
  DERIVED. THE GIVEN ROWS OF THIS SEAT. 5 by the template 'for every input the law returns true; each argument reads behind the call as it read before'; 0 by the template 'total and deterministic' (their statements: YtlehiklgbladoaaTotals.lean).
  GIVEN WITH THE SEED: the statements are not yours to turn. If you find one false, say at which input.
  Laid BY PROGRAM, IN A SANDBOX (cutbox-rows.mjs): the forced cells as the released guide's own fill.sh prints them over the translation c590235b806854b5… (all of the seat's roots in one cut). By AI agents, Wed Nov 11 2026. No macro, syntax, notation, axiom, sorry.
-/
import Derived.Test.YtlehiklgbladoaaChecked
import GoSem.Claim
import GoSem.ClaimJoined
import GoSem.ClaimMapViews
import Derived.JoinedTies
import Derived.KernelRfl
namespace Go.Proofs.Ytlehiklgbladoaa
/- THE CELL 'sum', in the pinned program and in every row, IS THE sha256 OF THE DUMP (.gsa) THAT YtlehiklgbladoaaProg.lean LOADS. Nothing in Lean hashes anything: it is a label: what it is worth is what the hold of that sum in a sandbox is worth. -/
noncomputable def Try.pinned : Pinned := { name := "ytlehiklgbladoaa", sum := "c590235b806854b5b2c9907b6363001ece35c3dde4d9fcfc23b389562a9f448a", checked := Try.checked }
namespace Rows
def none {H : Type} : Left H := { results := [], args := [] }

/-- 'fullinglaw11.CongruenceExamples': WHATEVER THE INPUT: true; the input reads as it did. -/
def congruenceExamplesSpec : ChangeSpec := { name := "congruenceExamples", fn := fun _ => fun
  | [] => { results := [.lit (.bool true)], args := [] }
  | _ => none }
def congruenceExamplesRow : OpenClaim := { program := "ytlehiklgbladoaa", sum := "c590235b806854b5b2c9907b6363001ece35c3dde4d9fcfc23b389562a9f448a", func := "fulling/fullinglaw11.CongruenceExamples", spec := "congruenceExamples", apart := false }
def CongruenceExamplesSaid : Prop := congruenceExamplesRow.holds Try.pinned (OpenSpec.ofChange congruenceExamplesSpec)

/-- ITS FALSE NEIGHBOUR: 'it returns false'. Refute it at one input. -/
def congruenceExamplesWrong : ChangeSpec := { name := "congruenceExamples", fn := fun _ => fun
  | [] => { results := [.lit (.bool false)], args := [] }
  | _ => none }
def CongruenceExamplesWrongFalsely : Prop := congruenceExamplesRow.holds Try.pinned (OpenSpec.ofChange congruenceExamplesWrong)

/-- 'fullinglaw11.CongruenceReference': WHATEVER THE INPUT: true; the input reads as it did. -/
def congruenceReferenceSpec : ChangeSpec := { name := "congruenceReference", fn := fun _ => fun
  | [d1, d2, d3, d4, d5, d6] => { results := [.lit (.bool true)], args := [d1, d2, d3, d4, d5, d6] }
  | _ => none }
def congruenceReferenceRow : OpenClaim := { program := "ytlehiklgbladoaa", sum := "c590235b806854b5b2c9907b6363001ece35c3dde4d9fcfc23b389562a9f448a", func := "fulling/fullinglaw11.CongruenceReference", spec := "congruenceReference", apart := false }
def CongruenceReferenceSaid : Prop := congruenceReferenceRow.holds Try.pinned (OpenSpec.ofChange congruenceReferenceSpec)

/-- ITS FALSE NEIGHBOUR: 'it returns false'. Refute it at one input. -/
def congruenceReferenceWrong : ChangeSpec := { name := "congruenceReference", fn := fun _ => fun
  | [d1, d2, d3, d4, d5, d6] => { results := [.lit (.bool false)], args := [d1, d2, d3, d4, d5, d6] }
  | _ => none }
def CongruenceReferenceWrongFalsely : Prop := congruenceReferenceRow.holds Try.pinned (OpenSpec.ofChange congruenceReferenceWrong)

/-- 'fullinglaw11.CongruenceClosure': WHATEVER THE INPUT: true; the input reads as it did. -/
def congruenceClosureSpec : ChangeSpec := { name := "congruenceClosure", fn := fun _ => fun
  | [d1, d2] => { results := [.lit (.bool true)], args := [d1, d2] }
  | _ => none }
def congruenceClosureRow : OpenClaim := { program := "ytlehiklgbladoaa", sum := "c590235b806854b5b2c9907b6363001ece35c3dde4d9fcfc23b389562a9f448a", func := "fulling/fullinglaw11.CongruenceClosure", spec := "congruenceClosure", apart := false }
def CongruenceClosureSaid : Prop := congruenceClosureRow.holds Try.pinned (OpenSpec.ofChange congruenceClosureSpec)

/-- ITS FALSE NEIGHBOUR: 'it returns false'. Refute it at one input. -/
def congruenceClosureWrong : ChangeSpec := { name := "congruenceClosure", fn := fun _ => fun
  | [d1, d2] => { results := [.lit (.bool false)], args := [d1, d2] }
  | _ => none }
def CongruenceClosureWrongFalsely : Prop := congruenceClosureRow.holds Try.pinned (OpenSpec.ofChange congruenceClosureWrong)

/-- 'fullinglaw11.CongruenceMonotonic': WHATEVER THE INPUT: true; the input reads as it did. -/
def congruenceMonotonicSpec : ChangeSpec := { name := "congruenceMonotonic", fn := fun _ => fun
  | [d1, d2, d3] => { results := [.lit (.bool true)], args := [d1, d2, d3] }
  | _ => none }
def congruenceMonotonicRow : OpenClaim := { program := "ytlehiklgbladoaa", sum := "c590235b806854b5b2c9907b6363001ece35c3dde4d9fcfc23b389562a9f448a", func := "fulling/fullinglaw11.CongruenceMonotonic", spec := "congruenceMonotonic", apart := false }
def CongruenceMonotonicSaid : Prop := congruenceMonotonicRow.holds Try.pinned (OpenSpec.ofChange congruenceMonotonicSpec)

/-- ITS FALSE NEIGHBOUR: 'it returns false'. Refute it at one input. -/
def congruenceMonotonicWrong : ChangeSpec := { name := "congruenceMonotonic", fn := fun _ => fun
  | [d1, d2, d3] => { results := [.lit (.bool false)], args := [d1, d2, d3] }
  | _ => none }
def CongruenceMonotonicWrongFalsely : Prop := congruenceMonotonicRow.holds Try.pinned (OpenSpec.ofChange congruenceMonotonicWrong)

/-- 'fullinglaw11.CongruenceSound': WHATEVER THE INPUT: true; the input reads as it did. -/
def congruenceSoundSpec : ChangeSpec := { name := "congruenceSound", fn := fun _ => fun
  | [d1, d2, d3] => { results := [.lit (.bool true)], args := [d1, d2, d3] }
  | _ => none }
def congruenceSoundRow : OpenClaim := { program := "ytlehiklgbladoaa", sum := "c590235b806854b5b2c9907b6363001ece35c3dde4d9fcfc23b389562a9f448a", func := "fulling/fullinglaw11.CongruenceSound", spec := "congruenceSound", apart := false }
def CongruenceSoundSaid : Prop := congruenceSoundRow.holds Try.pinned (OpenSpec.ofChange congruenceSoundSpec)

/-- ITS FALSE NEIGHBOUR: 'it returns false'. Refute it at one input. -/
def congruenceSoundWrong : ChangeSpec := { name := "congruenceSound", fn := fun _ => fun
  | [d1, d2, d3] => { results := [.lit (.bool false)], args := [d1, d2, d3] }
  | _ => none }
def CongruenceSoundWrongFalsely : Prop := congruenceSoundRow.holds Try.pinned (OpenSpec.ofChange congruenceSoundWrong)

/- THE SECOND FORM. 'bulk': how many values and letters a reading holds, each counted each time it is reached (what is shared counts as often as it is met; a slice's spare places count too). A statement '..UptoSaid' is the law's where the arguments, and the package variables that the reading takes, are together of bulk at most 1048576: NARROWER than '..Said'. Prove '..Said' where nothing that the law and all that it calls make is longer than what came in: it says more and counts as full. Else prove '..UptoSaid'. A law counts once. -/
mutual
def uptoBulk {H : Type} : DataW H → Nat
  | .lit (.string bytes) => bytes.length + 1
  | .lit _ => 1
  | .nil => 1
  | .ptr d => uptoBulk d + 1
  | .slice elems spare => uptoBulkAll elems + uptoBulkAll spare + 1
  | .agg parts => uptoBulkAll parts + 1
  | .iface _ d => uptoBulk d + 1
  | .map entries => uptoBulkEntries entries + 1
  | .held _ => 1
def uptoBulkAll {H : Type} : List (DataW H) → Nat
  | [] => 0
  | d :: r => uptoBulk d + uptoBulkAll r
def uptoBulkEntries {H : Type} : List (Lit × DataW H) → Nat
  | [] => 0
  | x :: r => uptoBulkEntry x + uptoBulkEntries r
def uptoBulkEntry {H : Type} : Lit × DataW H → Nat
  | (.string bytes, d) => bytes.length + uptoBulk d + 1
  | (_, d) => uptoBulk d + 1
 end
def uptoSmall : (H : Type) → List (DataW H) → Bool := fun _ ds => decide (uptoBulkAll ds ≤ 1048576)
def OpenSpec.upto (s : _root_.Go.ChangeSpec) : _root_.Go.OpenSpec := { _root_.Go.OpenSpec.ofChange s with cond := some uptoSmall }

/-- 'fullinglaw11.CongruenceExamples', WHERE WHAT IT READS IS OF BULK AT MOST 1048576: true; the input reads as it did. -/
def congruenceExamplesUptoRow : OpenClaim := { program := "ytlehiklgbladoaa", sum := "c590235b806854b5b2c9907b6363001ece35c3dde4d9fcfc23b389562a9f448a", func := "fulling/fullinglaw11.CongruenceExamples", spec := "congruenceExamples", apart := false, narrowed := true }
def CongruenceExamplesUptoSaid : Prop := congruenceExamplesUptoRow.holds Try.pinned (OpenSpec.upto congruenceExamplesSpec)

/-- 'fullinglaw11.CongruenceReference', WHERE WHAT IT READS IS OF BULK AT MOST 1048576: true; the input reads as it did. -/
def congruenceReferenceUptoRow : OpenClaim := { program := "ytlehiklgbladoaa", sum := "c590235b806854b5b2c9907b6363001ece35c3dde4d9fcfc23b389562a9f448a", func := "fulling/fullinglaw11.CongruenceReference", spec := "congruenceReference", apart := false, narrowed := true }
def CongruenceReferenceUptoSaid : Prop := congruenceReferenceUptoRow.holds Try.pinned (OpenSpec.upto congruenceReferenceSpec)

/-- 'fullinglaw11.CongruenceClosure', WHERE WHAT IT READS IS OF BULK AT MOST 1048576: true; the input reads as it did. -/
def congruenceClosureUptoRow : OpenClaim := { program := "ytlehiklgbladoaa", sum := "c590235b806854b5b2c9907b6363001ece35c3dde4d9fcfc23b389562a9f448a", func := "fulling/fullinglaw11.CongruenceClosure", spec := "congruenceClosure", apart := false, narrowed := true }
def CongruenceClosureUptoSaid : Prop := congruenceClosureUptoRow.holds Try.pinned (OpenSpec.upto congruenceClosureSpec)

/-- 'fullinglaw11.CongruenceMonotonic', WHERE WHAT IT READS IS OF BULK AT MOST 1048576: true; the input reads as it did. -/
def congruenceMonotonicUptoRow : OpenClaim := { program := "ytlehiklgbladoaa", sum := "c590235b806854b5b2c9907b6363001ece35c3dde4d9fcfc23b389562a9f448a", func := "fulling/fullinglaw11.CongruenceMonotonic", spec := "congruenceMonotonic", apart := false, narrowed := true }
def CongruenceMonotonicUptoSaid : Prop := congruenceMonotonicUptoRow.holds Try.pinned (OpenSpec.upto congruenceMonotonicSpec)

/-- 'fullinglaw11.CongruenceSound', WHERE WHAT IT READS IS OF BULK AT MOST 1048576: true; the input reads as it did. -/
def congruenceSoundUptoRow : OpenClaim := { program := "ytlehiklgbladoaa", sum := "c590235b806854b5b2c9907b6363001ece35c3dde4d9fcfc23b389562a9f448a", func := "fulling/fullinglaw11.CongruenceSound", spec := "congruenceSound", apart := false, narrowed := true }
def CongruenceSoundUptoSaid : Prop := congruenceSoundUptoRow.holds Try.pinned (OpenSpec.upto congruenceSoundSpec)

end Rows
end Go.Proofs.Ytlehiklgbladoaa
