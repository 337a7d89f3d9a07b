/-
  NARROWER THAN 'FOR EVERY INPUT', by the rows' own cells (each row's printed sentence says how): AutomatonApplicable: loops · DischargeReference: loops.
  DERIVED. THE GIVEN ROWS OF THIS SEAT. 10 by the template 'for every input the law returns true; each argument reads behind the call as it read before'; 0 by the template 'total and deterministic' (their statements: YtifhejahbbnkiaaGreatTotals.lean).
  GIVEN WITH THE SEED: the statements are not yours to turn. If you find one false, say at which input.
  Laid BY PROGRAM, IN A SANDBOX (cutbox-rows.mjs): the forced cells as the released guide's own fill.sh prints them over the translation b9023482491dba74… (all of the seat's roots in one cut). By AI agents, Wed Nov 11 2026. No macro, syntax, notation, axiom, sorry.
-/
import Derived.Test.YtifhejahbbnkiaaGreatChecked
import GoSem.Claim
import GoSem.ClaimJoined
import GoSem.ClaimMapViews
import Derived.JoinedTies
import Derived.KernelRfl
namespace Go.Proofs.YtifhejahbbnkiaaGreat
/- THE CELL 'sum', in the pinned program and in every row, IS THE sha256 OF THE DUMP (.gsa) THAT YtifhejahbbnkiaaGreatProg.lean LOADS. Nothing in Lean hashes anything: it is a label: what it is worth is what the hold of that sum in a sandbox is worth. -/
noncomputable def Tryz.pinned : Pinned := { name := "ytifhejahbbnkiaagreat", sum := "b9023482491dba74ad7172b95c45bc2ec244fed89ea6f9a830c23dbc86046ac9", checked := Tryz.checked }
namespace Rows
def none {H : Type} : Left H := { results := [], args := [] }

/-- 'fullinglaw17.RulesReference': WHATEVER THE INPUT: true; the input reads as it did. -/
def rulesReferenceSpec : ChangeSpec := { name := "rulesReference", fn := fun _ => fun
  | [d1, d2, d3, d4] => { results := [.lit (.bool true)], args := [d1, d2, d3, d4] }
  | _ => none }
def rulesReferenceRow : OpenClaim := { program := "ytifhejahbbnkiaagreat", sum := "b9023482491dba74ad7172b95c45bc2ec244fed89ea6f9a830c23dbc86046ac9", func := "fulling/fullinglaw17.RulesReference", spec := "rulesReference", unfollowed := true, recurses := true, apart := false }
def RulesReferenceSaid : Prop := rulesReferenceRow.holds Tryz.pinned (OpenSpec.ofChange rulesReferenceSpec)

/-- ITS FALSE NEIGHBOUR: 'it returns false'. Refute it at one input. -/
def rulesReferenceWrong : ChangeSpec := { name := "rulesReference", fn := fun _ => fun
  | [d1, d2, d3, d4] => { results := [.lit (.bool false)], args := [d1, d2, d3, d4] }
  | _ => none }
def RulesReferenceWrongFalsely : Prop := rulesReferenceRow.holds Tryz.pinned (OpenSpec.ofChange rulesReferenceWrong)

/-- 'fullinglaw19.AutomatonApplicable': WHATEVER THE INPUT: true; the input reads as it did. -/
def automatonApplicableSpec : ChangeSpec := { name := "automatonApplicable", fn := fun _ => fun
  | [d1, d2, d3] => { results := [.lit (.bool true)], args := [d1, d2, d3] }
  | _ => none }
def automatonApplicableRow : OpenClaim := { program := "ytifhejahbbnkiaagreat", sum := "b9023482491dba74ad7172b95c45bc2ec244fed89ea6f9a830c23dbc86046ac9", func := "fulling/fullinglaw19.AutomatonApplicable", spec := "automatonApplicable", inPlace := ["internal/reflectlite.ValueOf", "internal/reflectlite.Swapper", "(internal/reflectlite.Value).Len"], unfollowed := true, recurses := true, loops := true, apart := false }
def AutomatonApplicableSaid : Prop := automatonApplicableRow.holds Tryz.pinned (OpenSpec.ofChange automatonApplicableSpec)

/-- ITS FALSE NEIGHBOUR: 'it returns false'. Refute it at one input. -/
def automatonApplicableWrong : ChangeSpec := { name := "automatonApplicable", fn := fun _ => fun
  | [d1, d2, d3] => { results := [.lit (.bool false)], args := [d1, d2, d3] }
  | _ => none }
def AutomatonApplicableWrongFalsely : Prop := automatonApplicableRow.holds Tryz.pinned (OpenSpec.ofChange automatonApplicableWrong)

/-- 'fullinglaw19.AutomatonCheckReference': WHATEVER THE INPUT: true; the input reads as it did. -/
def automatonCheckReferenceSpec : ChangeSpec := { name := "automatonCheckReference", fn := fun _ => fun
  | [d1, d2, d3, d4] => { results := [.lit (.bool true)], args := [d1, d2, d3, d4] }
  | _ => none }
def automatonCheckReferenceRow : OpenClaim := { program := "ytifhejahbbnkiaagreat", sum := "b9023482491dba74ad7172b95c45bc2ec244fed89ea6f9a830c23dbc86046ac9", func := "fulling/fullinglaw19.AutomatonCheckReference", spec := "automatonCheckReference", inPlace := ["internal/reflectlite.ValueOf", "internal/reflectlite.Swapper", "(internal/reflectlite.Value).Len"], unfollowed := true, recurses := true, apart := false }
def AutomatonCheckReferenceSaid : Prop := automatonCheckReferenceRow.holds Tryz.pinned (OpenSpec.ofChange automatonCheckReferenceSpec)

/-- ITS FALSE NEIGHBOUR: 'it returns false'. Refute it at one input. -/
def automatonCheckReferenceWrong : ChangeSpec := { name := "automatonCheckReference", fn := fun _ => fun
  | [d1, d2, d3, d4] => { results := [.lit (.bool false)], args := [d1, d2, d3, d4] }
  | _ => none }
def AutomatonCheckReferenceWrongFalsely : Prop := automatonCheckReferenceRow.holds Tryz.pinned (OpenSpec.ofChange automatonCheckReferenceWrong)

/-- 'fullinglaw19.AutomatonRejects': WHATEVER THE INPUT: true; the input reads as it did. -/
def automatonRejectsSpec : ChangeSpec := { name := "automatonRejects", fn := fun _ => fun
  | [d1, d2, d3, d4, d5, d6, d7] => { results := [.lit (.bool true)], args := [d1, d2, d3, d4, d5, d6, d7] }
  | _ => none }
def automatonRejectsRow : OpenClaim := { program := "ytifhejahbbnkiaagreat", sum := "b9023482491dba74ad7172b95c45bc2ec244fed89ea6f9a830c23dbc86046ac9", func := "fulling/fullinglaw19.AutomatonRejects", spec := "automatonRejects", inPlace := ["internal/reflectlite.ValueOf", "internal/reflectlite.Swapper", "(internal/reflectlite.Value).Len"], unfollowed := true, recurses := true, apart := false }
def AutomatonRejectsSaid : Prop := automatonRejectsRow.holds Tryz.pinned (OpenSpec.ofChange automatonRejectsSpec)

/-- ITS FALSE NEIGHBOUR: 'it returns false'. Refute it at one input. -/
def automatonRejectsWrong : ChangeSpec := { name := "automatonRejects", fn := fun _ => fun
  | [d1, d2, d3, d4, d5, d6, d7] => { results := [.lit (.bool false)], args := [d1, d2, d3, d4, d5, d6, d7] }
  | _ => none }
def AutomatonRejectsWrongFalsely : Prop := automatonRejectsRow.holds Tryz.pinned (OpenSpec.ofChange automatonRejectsWrong)

/-- 'fullinglaw20.DischargeExamples': WHATEVER THE INPUT: true; the input reads as it did. -/
def dischargeExamplesSpec : ChangeSpec := { name := "dischargeExamples", fn := fun _ => fun
  | [] => { results := [.lit (.bool true)], args := [] }
  | _ => none }
def dischargeExamplesRow : OpenClaim := { program := "ytifhejahbbnkiaagreat", sum := "b9023482491dba74ad7172b95c45bc2ec244fed89ea6f9a830c23dbc86046ac9", func := "fulling/fullinglaw20.DischargeExamples", spec := "dischargeExamples", inPlace := ["internal/reflectlite.ValueOf", "internal/reflectlite.Swapper", "(internal/reflectlite.Value).Len"], unfollowed := true, recurses := true, apart := false }
def DischargeExamplesSaid : Prop := dischargeExamplesRow.holds Tryz.pinned (OpenSpec.ofChange dischargeExamplesSpec)

/-- ITS FALSE NEIGHBOUR: 'it returns false'. Refute it at one input. -/
def dischargeExamplesWrong : ChangeSpec := { name := "dischargeExamples", fn := fun _ => fun
  | [] => { results := [.lit (.bool false)], args := [] }
  | _ => none }
def DischargeExamplesWrongFalsely : Prop := dischargeExamplesRow.holds Tryz.pinned (OpenSpec.ofChange dischargeExamplesWrong)

/-- 'fullinglaw20.DischargeReference': WHATEVER THE INPUT: true; the input reads as it did. -/
def dischargeReferenceSpec : ChangeSpec := { name := "dischargeReference", fn := fun _ => fun
  | [d1, d2, d3] => { results := [.lit (.bool true)], args := [d1, d2, d3] }
  | _ => none }
def dischargeReferenceRow : OpenClaim := { program := "ytifhejahbbnkiaagreat", sum := "b9023482491dba74ad7172b95c45bc2ec244fed89ea6f9a830c23dbc86046ac9", func := "fulling/fullinglaw20.DischargeReference", spec := "dischargeReference", inPlace := ["internal/reflectlite.ValueOf", "internal/reflectlite.Swapper", "(internal/reflectlite.Value).Len"], unfollowed := true, recurses := true, loops := true, apart := false }
def DischargeReferenceSaid : Prop := dischargeReferenceRow.holds Tryz.pinned (OpenSpec.ofChange dischargeReferenceSpec)

/-- ITS FALSE NEIGHBOUR: 'it returns false'. Refute it at one input. -/
def dischargeReferenceWrong : ChangeSpec := { name := "dischargeReference", fn := fun _ => fun
  | [d1, d2, d3] => { results := [.lit (.bool false)], args := [d1, d2, d3] }
  | _ => none }
def DischargeReferenceWrongFalsely : Prop := dischargeReferenceRow.holds Tryz.pinned (OpenSpec.ofChange dischargeReferenceWrong)

/-- 'fullinglaw20.DischargeProveAll': WHATEVER THE INPUT: true; the input reads as it did. -/
def dischargeProveAllSpec : ChangeSpec := { name := "dischargeProveAll", fn := fun _ => fun
  | [d1, d2, d3, d4] => { results := [.lit (.bool true)], args := [d1, d2, d3, d4] }
  | _ => none }
def dischargeProveAllRow : OpenClaim := { program := "ytifhejahbbnkiaagreat", sum := "b9023482491dba74ad7172b95c45bc2ec244fed89ea6f9a830c23dbc86046ac9", func := "fulling/fullinglaw20.DischargeProveAll", spec := "dischargeProveAll", inPlace := ["internal/reflectlite.ValueOf", "internal/reflectlite.Swapper", "(internal/reflectlite.Value).Len"], unfollowed := true, recurses := true, apart := false }
def DischargeProveAllSaid : Prop := dischargeProveAllRow.holds Tryz.pinned (OpenSpec.ofChange dischargeProveAllSpec)

/-- ITS FALSE NEIGHBOUR: 'it returns false'. Refute it at one input. -/
def dischargeProveAllWrong : ChangeSpec := { name := "dischargeProveAll", fn := fun _ => fun
  | [d1, d2, d3, d4] => { results := [.lit (.bool false)], args := [d1, d2, d3, d4] }
  | _ => none }
def DischargeProveAllWrongFalsely : Prop := dischargeProveAllRow.holds Tryz.pinned (OpenSpec.ofChange dischargeProveAllWrong)

/-- 'fullinglaw20.DischargeCheckReference': WHATEVER THE INPUT: true; the input reads as it did. -/
def dischargeCheckReferenceSpec : ChangeSpec := { name := "dischargeCheckReference", fn := fun _ => fun
  | [d1, d2, d3, d4, d5, d6, d7] => { results := [.lit (.bool true)], args := [d1, d2, d3, d4, d5, d6, d7] }
  | _ => none }
def dischargeCheckReferenceRow : OpenClaim := { program := "ytifhejahbbnkiaagreat", sum := "b9023482491dba74ad7172b95c45bc2ec244fed89ea6f9a830c23dbc86046ac9", func := "fulling/fullinglaw20.DischargeCheckReference", spec := "dischargeCheckReference", inPlace := ["internal/reflectlite.ValueOf", "internal/reflectlite.Swapper", "(internal/reflectlite.Value).Len"], unfollowed := true, recurses := true, apart := false }
def DischargeCheckReferenceSaid : Prop := dischargeCheckReferenceRow.holds Tryz.pinned (OpenSpec.ofChange dischargeCheckReferenceSpec)

/-- ITS FALSE NEIGHBOUR: 'it returns false'. Refute it at one input. -/
def dischargeCheckReferenceWrong : ChangeSpec := { name := "dischargeCheckReference", fn := fun _ => fun
  | [d1, d2, d3, d4, d5, d6, d7] => { results := [.lit (.bool false)], args := [d1, d2, d3, d4, d5, d6, d7] }
  | _ => none }
def DischargeCheckReferenceWrongFalsely : Prop := dischargeCheckReferenceRow.holds Tryz.pinned (OpenSpec.ofChange dischargeCheckReferenceWrong)

/-- 'fullinglaw20.DischargeSound': WHATEVER THE INPUT: true; the input reads as it did. -/
def dischargeSoundSpec : ChangeSpec := { name := "dischargeSound", fn := fun _ => fun
  | [d1, d2, d3, d4, d5, d6, d7] => { results := [.lit (.bool true)], args := [d1, d2, d3, d4, d5, d6, d7] }
  | _ => none }
def dischargeSoundRow : OpenClaim := { program := "ytifhejahbbnkiaagreat", sum := "b9023482491dba74ad7172b95c45bc2ec244fed89ea6f9a830c23dbc86046ac9", func := "fulling/fullinglaw20.DischargeSound", spec := "dischargeSound", inPlace := ["internal/reflectlite.ValueOf", "internal/reflectlite.Swapper", "(internal/reflectlite.Value).Len"], unfollowed := true, recurses := true, apart := false }
def DischargeSoundSaid : Prop := dischargeSoundRow.holds Tryz.pinned (OpenSpec.ofChange dischargeSoundSpec)

/-- ITS FALSE NEIGHBOUR: 'it returns false'. Refute it at one input. -/
def dischargeSoundWrong : ChangeSpec := { name := "dischargeSound", fn := fun _ => fun
  | [d1, d2, d3, d4, d5, d6, d7] => { results := [.lit (.bool false)], args := [d1, d2, d3, d4, d5, d6, d7] }
  | _ => none }
def DischargeSoundWrongFalsely : Prop := dischargeSoundRow.holds Tryz.pinned (OpenSpec.ofChange dischargeSoundWrong)

/-- 'fullinglaw20.DischargeForeign': WHATEVER THE INPUT: true; the input reads as it did. -/
def dischargeForeignSpec : ChangeSpec := { name := "dischargeForeign", fn := fun _ => fun
  | [d1, d2, d3, d4, d5, d6, d7] => { results := [.lit (.bool true)], args := [d1, d2, d3, d4, d5, d6, d7] }
  | _ => none }
def dischargeForeignRow : OpenClaim := { program := "ytifhejahbbnkiaagreat", sum := "b9023482491dba74ad7172b95c45bc2ec244fed89ea6f9a830c23dbc86046ac9", func := "fulling/fullinglaw20.DischargeForeign", spec := "dischargeForeign", inPlace := ["internal/reflectlite.ValueOf", "internal/reflectlite.Swapper", "(internal/reflectlite.Value).Len"], unfollowed := true, recurses := true, apart := false }
def DischargeForeignSaid : Prop := dischargeForeignRow.holds Tryz.pinned (OpenSpec.ofChange dischargeForeignSpec)

/-- ITS FALSE NEIGHBOUR: 'it returns false'. Refute it at one input. -/
def dischargeForeignWrong : ChangeSpec := { name := "dischargeForeign", fn := fun _ => fun
  | [d1, d2, d3, d4, d5, d6, d7] => { results := [.lit (.bool false)], args := [d1, d2, d3, d4, d5, d6, d7] }
  | _ => none }
def DischargeForeignWrongFalsely : Prop := dischargeForeignRow.holds Tryz.pinned (OpenSpec.ofChange dischargeForeignWrong)

/- THE SECOND FORM. 'bulk': how many values and letters a reading holds, each counted each time it is reached (what is shared counts as often as it is met; a slice's spare places count too). A statement '..UptoSaid' is the law's where the arguments, and the package variables that the reading takes, are together of bulk at most 1048576: NARROWER than '..Said'. Prove '..Said' where nothing that the law and all that it calls make is longer than what came in: it says more and counts as full. Else prove '..UptoSaid'. A law counts once. -/
mutual
def uptoBulk {H : Type} : DataW H → Nat
  | .lit (.string bytes) => bytes.length + 1
  | .lit _ => 1
  | .nil => 1
  | .ptr d => uptoBulk d + 1
  | .slice elems spare => uptoBulkAll elems + uptoBulkAll spare + 1
  | .agg parts => uptoBulkAll parts + 1
  | .iface _ d => uptoBulk d + 1
  | .map entries => uptoBulkEntries entries + 1
  | .held _ => 1
def uptoBulkAll {H : Type} : List (DataW H) → Nat
  | [] => 0
  | d :: r => uptoBulk d + uptoBulkAll r
def uptoBulkEntries {H : Type} : List (Lit × DataW H) → Nat
  | [] => 0
  | x :: r => uptoBulkEntry x + uptoBulkEntries r
def uptoBulkEntry {H : Type} : Lit × DataW H → Nat
  | (.string bytes, d) => bytes.length + uptoBulk d + 1
  | (_, d) => uptoBulk d + 1
 end
def uptoSmall : (H : Type) → List (DataW H) → Bool := fun _ ds => decide (uptoBulkAll ds ≤ 1048576)
def OpenSpec.upto (s : _root_.Go.ChangeSpec) : _root_.Go.OpenSpec := { _root_.Go.OpenSpec.ofChange s with cond := some uptoSmall }

/-- 'fullinglaw17.RulesReference', WHERE WHAT IT READS IS OF BULK AT MOST 1048576: true; the input reads as it did. -/
def rulesReferenceUptoRow : OpenClaim := { program := "ytifhejahbbnkiaagreat", sum := "b9023482491dba74ad7172b95c45bc2ec244fed89ea6f9a830c23dbc86046ac9", func := "fulling/fullinglaw17.RulesReference", spec := "rulesReference", unfollowed := true, recurses := true, apart := false, narrowed := true }
def RulesReferenceUptoSaid : Prop := rulesReferenceUptoRow.holds Tryz.pinned (OpenSpec.upto rulesReferenceSpec)

/-- 'fullinglaw19.AutomatonApplicable', WHERE WHAT IT READS IS OF BULK AT MOST 1048576: true; the input reads as it did. -/
def automatonApplicableUptoRow : OpenClaim := { program := "ytifhejahbbnkiaagreat", sum := "b9023482491dba74ad7172b95c45bc2ec244fed89ea6f9a830c23dbc86046ac9", func := "fulling/fullinglaw19.AutomatonApplicable", spec := "automatonApplicable", inPlace := ["internal/reflectlite.ValueOf", "internal/reflectlite.Swapper", "(internal/reflectlite.Value).Len"], unfollowed := true, recurses := true, loops := true, apart := false, narrowed := true }
def AutomatonApplicableUptoSaid : Prop := automatonApplicableUptoRow.holds Tryz.pinned (OpenSpec.upto automatonApplicableSpec)

/-- 'fullinglaw19.AutomatonCheckReference', WHERE WHAT IT READS IS OF BULK AT MOST 1048576: true; the input reads as it did. -/
def automatonCheckReferenceUptoRow : OpenClaim := { program := "ytifhejahbbnkiaagreat", sum := "b9023482491dba74ad7172b95c45bc2ec244fed89ea6f9a830c23dbc86046ac9", func := "fulling/fullinglaw19.AutomatonCheckReference", spec := "automatonCheckReference", inPlace := ["internal/reflectlite.ValueOf", "internal/reflectlite.Swapper", "(internal/reflectlite.Value).Len"], unfollowed := true, recurses := true, apart := false, narrowed := true }
def AutomatonCheckReferenceUptoSaid : Prop := automatonCheckReferenceUptoRow.holds Tryz.pinned (OpenSpec.upto automatonCheckReferenceSpec)

/-- 'fullinglaw19.AutomatonRejects', WHERE WHAT IT READS IS OF BULK AT MOST 1048576: true; the input reads as it did. -/
def automatonRejectsUptoRow : OpenClaim := { program := "ytifhejahbbnkiaagreat", sum := "b9023482491dba74ad7172b95c45bc2ec244fed89ea6f9a830c23dbc86046ac9", func := "fulling/fullinglaw19.AutomatonRejects", spec := "automatonRejects", inPlace := ["internal/reflectlite.ValueOf", "internal/reflectlite.Swapper", "(internal/reflectlite.Value).Len"], unfollowed := true, recurses := true, apart := false, narrowed := true }
def AutomatonRejectsUptoSaid : Prop := automatonRejectsUptoRow.holds Tryz.pinned (OpenSpec.upto automatonRejectsSpec)

/-- 'fullinglaw20.DischargeExamples', WHERE WHAT IT READS IS OF BULK AT MOST 1048576: true; the input reads as it did. -/
def dischargeExamplesUptoRow : OpenClaim := { program := "ytifhejahbbnkiaagreat", sum := "b9023482491dba74ad7172b95c45bc2ec244fed89ea6f9a830c23dbc86046ac9", func := "fulling/fullinglaw20.DischargeExamples", spec := "dischargeExamples", inPlace := ["internal/reflectlite.ValueOf", "internal/reflectlite.Swapper", "(internal/reflectlite.Value).Len"], unfollowed := true, recurses := true, apart := false, narrowed := true }
def DischargeExamplesUptoSaid : Prop := dischargeExamplesUptoRow.holds Tryz.pinned (OpenSpec.upto dischargeExamplesSpec)

/-- 'fullinglaw20.DischargeReference', WHERE WHAT IT READS IS OF BULK AT MOST 1048576: true; the input reads as it did. -/
def dischargeReferenceUptoRow : OpenClaim := { program := "ytifhejahbbnkiaagreat", sum := "b9023482491dba74ad7172b95c45bc2ec244fed89ea6f9a830c23dbc86046ac9", func := "fulling/fullinglaw20.DischargeReference", spec := "dischargeReference", inPlace := ["internal/reflectlite.ValueOf", "internal/reflectlite.Swapper", "(internal/reflectlite.Value).Len"], unfollowed := true, recurses := true, loops := true, apart := false, narrowed := true }
def DischargeReferenceUptoSaid : Prop := dischargeReferenceUptoRow.holds Tryz.pinned (OpenSpec.upto dischargeReferenceSpec)

/-- 'fullinglaw20.DischargeProveAll', WHERE WHAT IT READS IS OF BULK AT MOST 1048576: true; the input reads as it did. -/
def dischargeProveAllUptoRow : OpenClaim := { program := "ytifhejahbbnkiaagreat", sum := "b9023482491dba74ad7172b95c45bc2ec244fed89ea6f9a830c23dbc86046ac9", func := "fulling/fullinglaw20.DischargeProveAll", spec := "dischargeProveAll", inPlace := ["internal/reflectlite.ValueOf", "internal/reflectlite.Swapper", "(internal/reflectlite.Value).Len"], unfollowed := true, recurses := true, apart := false, narrowed := true }
def DischargeProveAllUptoSaid : Prop := dischargeProveAllUptoRow.holds Tryz.pinned (OpenSpec.upto dischargeProveAllSpec)

/-- 'fullinglaw20.DischargeCheckReference', WHERE WHAT IT READS IS OF BULK AT MOST 1048576: true; the input reads as it did. -/
def dischargeCheckReferenceUptoRow : OpenClaim := { program := "ytifhejahbbnkiaagreat", sum := "b9023482491dba74ad7172b95c45bc2ec244fed89ea6f9a830c23dbc86046ac9", func := "fulling/fullinglaw20.DischargeCheckReference", spec := "dischargeCheckReference", inPlace := ["internal/reflectlite.ValueOf", "internal/reflectlite.Swapper", "(internal/reflectlite.Value).Len"], unfollowed := true, recurses := true, apart := false, narrowed := true }
def DischargeCheckReferenceUptoSaid : Prop := dischargeCheckReferenceUptoRow.holds Tryz.pinned (OpenSpec.upto dischargeCheckReferenceSpec)

/-- 'fullinglaw20.DischargeSound', WHERE WHAT IT READS IS OF BULK AT MOST 1048576: true; the input reads as it did. -/
def dischargeSoundUptoRow : OpenClaim := { program := "ytifhejahbbnkiaagreat", sum := "b9023482491dba74ad7172b95c45bc2ec244fed89ea6f9a830c23dbc86046ac9", func := "fulling/fullinglaw20.DischargeSound", spec := "dischargeSound", inPlace := ["internal/reflectlite.ValueOf", "internal/reflectlite.Swapper", "(internal/reflectlite.Value).Len"], unfollowed := true, recurses := true, apart := false, narrowed := true }
def DischargeSoundUptoSaid : Prop := dischargeSoundUptoRow.holds Tryz.pinned (OpenSpec.upto dischargeSoundSpec)

/-- 'fullinglaw20.DischargeForeign', WHERE WHAT IT READS IS OF BULK AT MOST 1048576: true; the input reads as it did. -/
def dischargeForeignUptoRow : OpenClaim := { program := "ytifhejahbbnkiaagreat", sum := "b9023482491dba74ad7172b95c45bc2ec244fed89ea6f9a830c23dbc86046ac9", func := "fulling/fullinglaw20.DischargeForeign", spec := "dischargeForeign", inPlace := ["internal/reflectlite.ValueOf", "internal/reflectlite.Swapper", "(internal/reflectlite.Value).Len"], unfollowed := true, recurses := true, apart := false, narrowed := true }
def DischargeForeignUptoSaid : Prop := dischargeForeignUptoRow.holds Tryz.pinned (OpenSpec.upto dischargeForeignSpec)

end Rows
end Go.Proofs.YtifhejahbbnkiaaGreat
