/-
  NARROWER THAN 'FOR EVERY INPUT', by the rows' own cells (each row's printed sentence says how): PolynomialReference: loops.
  DERIVED. THE GIVEN ROWS OF THIS SEAT. 7 by the template 'for every input the law returns true; each argument reads behind the call as it read before'; 0 by the template 'total and deterministic' (their statements: YtnefhokojbkppaaTotals.lean).
  GIVEN WITH THE SEED: the statements are not yours to turn. If you find one false, say at which input.
  Laid BY PROGRAM, IN A SANDBOX (cutbox-rows.mjs): the forced cells as the released guide's own fill.sh prints them over the translation 78507b7368c90545… (all of the seat's roots in one cut). By AI agents, Wed Nov 11 2026. No macro, syntax, notation, axiom, sorry.
-/
import Derived.Test.YtnefhokojbkppaaChecked
import GoSem.Claim
import GoSem.ClaimJoined
import GoSem.ClaimMapViews
import Derived.JoinedTies
import Derived.KernelRfl
namespace Go.Proofs.Ytnefhokojbkppaa
/- THE CELL 'sum', in the pinned program and in every row, IS THE sha256 OF THE DUMP (.gsa) THAT YtnefhokojbkppaaProg.lean LOADS. Nothing in Lean hashes anything: it is a label: what it is worth is what the hold of that sum in a sandbox is worth. -/
noncomputable def Try.pinned : Pinned := { name := "ytnefhokojbkppaa", sum := "78507b7368c90545e3eb18c1c1c9fdbb98557a61d6e6f38c66c9e9f6e9fb4b0c", checked := Try.checked }
namespace Rows
def none {H : Type} : Left H := { results := [], args := [] }

/-- 'fullinglaw18.PolynomialExamples': WHATEVER THE INPUT: true; the input reads as it did. -/
def polynomialExamplesSpec : ChangeSpec := { name := "polynomialExamples", fn := fun _ => fun
  | [] => { results := [.lit (.bool true)], args := [] }
  | _ => none }
def polynomialExamplesRow : OpenClaim := { program := "ytnefhokojbkppaa", sum := "78507b7368c90545e3eb18c1c1c9fdbb98557a61d6e6f38c66c9e9f6e9fb4b0c", func := "fulling/fullinglaw18.PolynomialExamples", spec := "polynomialExamples", recurses := true, apart := false }
def PolynomialExamplesSaid : Prop := polynomialExamplesRow.holds Try.pinned (OpenSpec.ofChange polynomialExamplesSpec)

/-- ITS FALSE NEIGHBOUR: 'it returns false'. Refute it at one input. -/
def polynomialExamplesWrong : ChangeSpec := { name := "polynomialExamples", fn := fun _ => fun
  | [] => { results := [.lit (.bool false)], args := [] }
  | _ => none }
def PolynomialExamplesWrongFalsely : Prop := polynomialExamplesRow.holds Try.pinned (OpenSpec.ofChange polynomialExamplesWrong)

/-- 'fullinglaw18.PolynomialSound': WHATEVER THE INPUT: true; the input reads as it did. -/
def polynomialSoundSpec : ChangeSpec := { name := "polynomialSound", fn := fun _ => fun
  | [d1, d2, d3, d4, d5] => { results := [.lit (.bool true)], args := [d1, d2, d3, d4, d5] }
  | _ => none }
def polynomialSoundRow : OpenClaim := { program := "ytnefhokojbkppaa", sum := "78507b7368c90545e3eb18c1c1c9fdbb98557a61d6e6f38c66c9e9f6e9fb4b0c", func := "fulling/fullinglaw18.PolynomialSound", spec := "polynomialSound", recurses := true, apart := false }
def PolynomialSoundSaid : Prop := polynomialSoundRow.holds Try.pinned (OpenSpec.ofChange polynomialSoundSpec)

/-- ITS FALSE NEIGHBOUR: 'it returns false'. Refute it at one input. -/
def polynomialSoundWrong : ChangeSpec := { name := "polynomialSound", fn := fun _ => fun
  | [d1, d2, d3, d4, d5] => { results := [.lit (.bool false)], args := [d1, d2, d3, d4, d5] }
  | _ => none }
def PolynomialSoundWrongFalsely : Prop := polynomialSoundRow.holds Try.pinned (OpenSpec.ofChange polynomialSoundWrong)

/-- 'fullinglaw18.PolynomialLaws': WHATEVER THE INPUT: true; the input reads as it did. -/
def polynomialLawsSpec : ChangeSpec := { name := "polynomialLaws", fn := fun _ => fun
  | [d1, d2, d3, d4] => { results := [.lit (.bool true)], args := [d1, d2, d3, d4] }
  | _ => none }
def polynomialLawsRow : OpenClaim := { program := "ytnefhokojbkppaa", sum := "78507b7368c90545e3eb18c1c1c9fdbb98557a61d6e6f38c66c9e9f6e9fb4b0c", func := "fulling/fullinglaw18.PolynomialLaws", spec := "polynomialLaws", recurses := true, apart := false }
def PolynomialLawsSaid : Prop := polynomialLawsRow.holds Try.pinned (OpenSpec.ofChange polynomialLawsSpec)

/-- ITS FALSE NEIGHBOUR: 'it returns false'. Refute it at one input. -/
def polynomialLawsWrong : ChangeSpec := { name := "polynomialLaws", fn := fun _ => fun
  | [d1, d2, d3, d4] => { results := [.lit (.bool false)], args := [d1, d2, d3, d4] }
  | _ => none }
def PolynomialLawsWrongFalsely : Prop := polynomialLawsRow.holds Try.pinned (OpenSpec.ofChange polynomialLawsWrong)

/-- 'fullinglaw18.PolynomialShift': WHATEVER THE INPUT: true; the input reads as it did. -/
def polynomialShiftSpec : ChangeSpec := { name := "polynomialShift", fn := fun _ => fun
  | [d1, d2] => { results := [.lit (.bool true)], args := [d1, d2] }
  | _ => none }
def polynomialShiftRow : OpenClaim := { program := "ytnefhokojbkppaa", sum := "78507b7368c90545e3eb18c1c1c9fdbb98557a61d6e6f38c66c9e9f6e9fb4b0c", func := "fulling/fullinglaw18.PolynomialShift", spec := "polynomialShift", recurses := true, apart := false }
def PolynomialShiftSaid : Prop := polynomialShiftRow.holds Try.pinned (OpenSpec.ofChange polynomialShiftSpec)

/-- ITS FALSE NEIGHBOUR: 'it returns false'. Refute it at one input. -/
def polynomialShiftWrong : ChangeSpec := { name := "polynomialShift", fn := fun _ => fun
  | [d1, d2] => { results := [.lit (.bool false)], args := [d1, d2] }
  | _ => none }
def PolynomialShiftWrongFalsely : Prop := polynomialShiftRow.holds Try.pinned (OpenSpec.ofChange polynomialShiftWrong)

/-- 'fullinglaw18.PolynomialCancel': WHATEVER THE INPUT: true; the input reads as it did. -/
def polynomialCancelSpec : ChangeSpec := { name := "polynomialCancel", fn := fun _ => fun
  | [d] => { results := [.lit (.bool true)], args := [d] }
  | _ => none }
def polynomialCancelRow : OpenClaim := { program := "ytnefhokojbkppaa", sum := "78507b7368c90545e3eb18c1c1c9fdbb98557a61d6e6f38c66c9e9f6e9fb4b0c", func := "fulling/fullinglaw18.PolynomialCancel", spec := "polynomialCancel", recurses := true, apart := false }
def PolynomialCancelSaid : Prop := polynomialCancelRow.holds Try.pinned (OpenSpec.ofChange polynomialCancelSpec)

/-- ITS FALSE NEIGHBOUR: 'it returns false'. Refute it at one input. -/
def polynomialCancelWrong : ChangeSpec := { name := "polynomialCancel", fn := fun _ => fun
  | [d] => { results := [.lit (.bool false)], args := [d] }
  | _ => none }
def PolynomialCancelWrongFalsely : Prop := polynomialCancelRow.holds Try.pinned (OpenSpec.ofChange polynomialCancelWrong)

/-- 'fullinglaw18.PolynomialReference': WHATEVER THE INPUT: true; the input reads as it did. -/
def polynomialReferenceSpec : ChangeSpec := { name := "polynomialReference", fn := fun _ => fun
  | [d1, d2, d3, d4, d5] => { results := [.lit (.bool true)], args := [d1, d2, d3, d4, d5] }
  | _ => none }
def polynomialReferenceRow : OpenClaim := { program := "ytnefhokojbkppaa", sum := "78507b7368c90545e3eb18c1c1c9fdbb98557a61d6e6f38c66c9e9f6e9fb4b0c", func := "fulling/fullinglaw18.PolynomialReference", spec := "polynomialReference", unfollowed := true, recurses := true, loops := true, apart := false }
def PolynomialReferenceSaid : Prop := polynomialReferenceRow.holds Try.pinned (OpenSpec.ofChange polynomialReferenceSpec)

/-- ITS FALSE NEIGHBOUR: 'it returns false'. Refute it at one input. -/
def polynomialReferenceWrong : ChangeSpec := { name := "polynomialReference", fn := fun _ => fun
  | [d1, d2, d3, d4, d5] => { results := [.lit (.bool false)], args := [d1, d2, d3, d4, d5] }
  | _ => none }
def PolynomialReferenceWrongFalsely : Prop := polynomialReferenceRow.holds Try.pinned (OpenSpec.ofChange polynomialReferenceWrong)

/-- 'fullinglaw18.PolynomialSymmetric': WHATEVER THE INPUT: true; the input reads as it did. -/
def polynomialSymmetricSpec : ChangeSpec := { name := "polynomialSymmetric", fn := fun _ => fun
  | [d1, d2, d3] => { results := [.lit (.bool true)], args := [d1, d2, d3] }
  | _ => none }
def polynomialSymmetricRow : OpenClaim := { program := "ytnefhokojbkppaa", sum := "78507b7368c90545e3eb18c1c1c9fdbb98557a61d6e6f38c66c9e9f6e9fb4b0c", func := "fulling/fullinglaw18.PolynomialSymmetric", spec := "polynomialSymmetric", unfollowed := true, recurses := true, apart := false }
def PolynomialSymmetricSaid : Prop := polynomialSymmetricRow.holds Try.pinned (OpenSpec.ofChange polynomialSymmetricSpec)

/-- ITS FALSE NEIGHBOUR: 'it returns false'. Refute it at one input. -/
def polynomialSymmetricWrong : ChangeSpec := { name := "polynomialSymmetric", fn := fun _ => fun
  | [d1, d2, d3] => { results := [.lit (.bool false)], args := [d1, d2, d3] }
  | _ => none }
def PolynomialSymmetricWrongFalsely : Prop := polynomialSymmetricRow.holds Try.pinned (OpenSpec.ofChange polynomialSymmetricWrong)

/- THE SECOND FORM. 'bulk': how many values and letters a reading holds, each counted each time it is reached (what is shared counts as often as it is met; a slice's spare places count too). A statement '..UptoSaid' is the law's where the arguments, and the package variables that the reading takes, are together of bulk at most 1048576: NARROWER than '..Said'. Prove '..Said' where nothing that the law and all that it calls make is longer than what came in: it says more and counts as full. Else prove '..UptoSaid'. A law counts once. -/
mutual
def uptoBulk {H : Type} : DataW H → Nat
  | .lit (.string bytes) => bytes.length + 1
  | .lit _ => 1
  | .nil => 1
  | .ptr d => uptoBulk d + 1
  | .slice elems spare => uptoBulkAll elems + uptoBulkAll spare + 1
  | .agg parts => uptoBulkAll parts + 1
  | .iface _ d => uptoBulk d + 1
  | .map entries => uptoBulkEntries entries + 1
  | .held _ => 1
def uptoBulkAll {H : Type} : List (DataW H) → Nat
  | [] => 0
  | d :: r => uptoBulk d + uptoBulkAll r
def uptoBulkEntries {H : Type} : List (Lit × DataW H) → Nat
  | [] => 0
  | x :: r => uptoBulkEntry x + uptoBulkEntries r
def uptoBulkEntry {H : Type} : Lit × DataW H → Nat
  | (.string bytes, d) => bytes.length + uptoBulk d + 1
  | (_, d) => uptoBulk d + 1
 end
def uptoSmall : (H : Type) → List (DataW H) → Bool := fun _ ds => decide (uptoBulkAll ds ≤ 1048576)
def OpenSpec.upto (s : _root_.Go.ChangeSpec) : _root_.Go.OpenSpec := { _root_.Go.OpenSpec.ofChange s with cond := some uptoSmall }

/-- 'fullinglaw18.PolynomialExamples', WHERE WHAT IT READS IS OF BULK AT MOST 1048576: true; the input reads as it did. -/
def polynomialExamplesUptoRow : OpenClaim := { program := "ytnefhokojbkppaa", sum := "78507b7368c90545e3eb18c1c1c9fdbb98557a61d6e6f38c66c9e9f6e9fb4b0c", func := "fulling/fullinglaw18.PolynomialExamples", spec := "polynomialExamples", recurses := true, apart := false, narrowed := true }
def PolynomialExamplesUptoSaid : Prop := polynomialExamplesUptoRow.holds Try.pinned (OpenSpec.upto polynomialExamplesSpec)

/-- 'fullinglaw18.PolynomialSound', WHERE WHAT IT READS IS OF BULK AT MOST 1048576: true; the input reads as it did. -/
def polynomialSoundUptoRow : OpenClaim := { program := "ytnefhokojbkppaa", sum := "78507b7368c90545e3eb18c1c1c9fdbb98557a61d6e6f38c66c9e9f6e9fb4b0c", func := "fulling/fullinglaw18.PolynomialSound", spec := "polynomialSound", recurses := true, apart := false, narrowed := true }
def PolynomialSoundUptoSaid : Prop := polynomialSoundUptoRow.holds Try.pinned (OpenSpec.upto polynomialSoundSpec)

/-- 'fullinglaw18.PolynomialLaws', WHERE WHAT IT READS IS OF BULK AT MOST 1048576: true; the input reads as it did. -/
def polynomialLawsUptoRow : OpenClaim := { program := "ytnefhokojbkppaa", sum := "78507b7368c90545e3eb18c1c1c9fdbb98557a61d6e6f38c66c9e9f6e9fb4b0c", func := "fulling/fullinglaw18.PolynomialLaws", spec := "polynomialLaws", recurses := true, apart := false, narrowed := true }
def PolynomialLawsUptoSaid : Prop := polynomialLawsUptoRow.holds Try.pinned (OpenSpec.upto polynomialLawsSpec)

/-- 'fullinglaw18.PolynomialShift', WHERE WHAT IT READS IS OF BULK AT MOST 1048576: true; the input reads as it did. -/
def polynomialShiftUptoRow : OpenClaim := { program := "ytnefhokojbkppaa", sum := "78507b7368c90545e3eb18c1c1c9fdbb98557a61d6e6f38c66c9e9f6e9fb4b0c", func := "fulling/fullinglaw18.PolynomialShift", spec := "polynomialShift", recurses := true, apart := false, narrowed := true }
def PolynomialShiftUptoSaid : Prop := polynomialShiftUptoRow.holds Try.pinned (OpenSpec.upto polynomialShiftSpec)

/-- 'fullinglaw18.PolynomialCancel', WHERE WHAT IT READS IS OF BULK AT MOST 1048576: true; the input reads as it did. -/
def polynomialCancelUptoRow : OpenClaim := { program := "ytnefhokojbkppaa", sum := "78507b7368c90545e3eb18c1c1c9fdbb98557a61d6e6f38c66c9e9f6e9fb4b0c", func := "fulling/fullinglaw18.PolynomialCancel", spec := "polynomialCancel", recurses := true, apart := false, narrowed := true }
def PolynomialCancelUptoSaid : Prop := polynomialCancelUptoRow.holds Try.pinned (OpenSpec.upto polynomialCancelSpec)

/-- 'fullinglaw18.PolynomialReference', WHERE WHAT IT READS IS OF BULK AT MOST 1048576: true; the input reads as it did. -/
def polynomialReferenceUptoRow : OpenClaim := { program := "ytnefhokojbkppaa", sum := "78507b7368c90545e3eb18c1c1c9fdbb98557a61d6e6f38c66c9e9f6e9fb4b0c", func := "fulling/fullinglaw18.PolynomialReference", spec := "polynomialReference", unfollowed := true, recurses := true, loops := true, apart := false, narrowed := true }
def PolynomialReferenceUptoSaid : Prop := polynomialReferenceUptoRow.holds Try.pinned (OpenSpec.upto polynomialReferenceSpec)

/-- 'fullinglaw18.PolynomialSymmetric', WHERE WHAT IT READS IS OF BULK AT MOST 1048576: true; the input reads as it did. -/
def polynomialSymmetricUptoRow : OpenClaim := { program := "ytnefhokojbkppaa", sum := "78507b7368c90545e3eb18c1c1c9fdbb98557a61d6e6f38c66c9e9f6e9fb4b0c", func := "fulling/fullinglaw18.PolynomialSymmetric", spec := "polynomialSymmetric", unfollowed := true, recurses := true, apart := false, narrowed := true }
def PolynomialSymmetricUptoSaid : Prop := polynomialSymmetricUptoRow.holds Try.pinned (OpenSpec.upto polynomialSymmetricSpec)

end Rows
end Go.Proofs.Ytnefhokojbkppaa
