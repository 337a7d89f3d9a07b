/-
  No cell of these rows narrows 'for every input' (looked for: loops, veiled, ifaces, maps, wideKeys, modest, calm, conditions, laid).
  DERIVED. THE GIVEN ROWS OF THIS SEAT. 7 by the template 'for every input the law returns true; each argument reads behind the call as it read before'; 0 by the template 'total and deterministic' (their statements: YtigambcefdeaoaaTotals.lean).
  GIVEN WITH THE SEED: the statements are not yours to turn. If you find one false, say at which input.
  Laid BY PROGRAM, IN A SANDBOX (cutbox-rows.mjs): the forced cells as the released guide's own fill.sh prints them over the translation 0a3a6619ae2ead16… (all of the seat's roots in one cut). By AI agents, Wed Nov 11 2026. No macro, syntax, notation, axiom, sorry.
-/
import Derived.Test.YtigambcefdeaoaaChecked
import GoSem.Claim
import GoSem.ClaimJoined
import GoSem.ClaimMapViews
import Derived.JoinedTies
import Derived.KernelRfl
namespace Go.Proofs.Ytigambcefdeaoaa
/- THE CELL 'sum', in the pinned program and in every row, IS THE sha256 OF THE DUMP (.gsa) THAT YtigambcefdeaoaaProg.lean LOADS. Nothing in Lean hashes anything: it is a label: what it is worth is what the hold of that sum in a sandbox is worth. -/
noncomputable def Try.pinned : Pinned := { name := "ytigambcefdeaoaa", sum := "0a3a6619ae2ead16c303aa01e51eb396eb907f51eda205a203c29f627873ced1", checked := Try.checked }
namespace Rows
def none {H : Type} : Left H := { results := [], args := [] }

/-- 'fullinglaw12.EgraphExamples': WHATEVER THE INPUT: true; the input reads as it did. -/
def egraphExamplesSpec : ChangeSpec := { name := "egraphExamples", fn := fun _ => fun
  | [] => { results := [.lit (.bool true)], args := [] }
  | _ => none }
def egraphExamplesRow : OpenClaim := { program := "ytigambcefdeaoaa", sum := "0a3a6619ae2ead16c303aa01e51eb396eb907f51eda205a203c29f627873ced1", func := "fulling/fullinglaw12.EgraphExamples", spec := "egraphExamples", plainKeys := false, apart := false }
def EgraphExamplesSaid : Prop := egraphExamplesRow.holds Try.pinned (OpenSpec.ofChange egraphExamplesSpec)

/-- ITS FALSE NEIGHBOUR: 'it returns false'. Refute it at one input. -/
def egraphExamplesWrong : ChangeSpec := { name := "egraphExamples", fn := fun _ => fun
  | [] => { results := [.lit (.bool false)], args := [] }
  | _ => none }
def EgraphExamplesWrongFalsely : Prop := egraphExamplesRow.holds Try.pinned (OpenSpec.ofChange egraphExamplesWrong)

/-- 'fullinglaw12.EgraphOrder': WHATEVER THE INPUT: true; the input reads as it did. -/
def egraphOrderSpec : ChangeSpec := { name := "egraphOrder", fn := fun _ => fun
  | [d1, d2] => { results := [.lit (.bool true)], args := [d1, d2] }
  | _ => none }
def egraphOrderRow : OpenClaim := { program := "ytigambcefdeaoaa", sum := "0a3a6619ae2ead16c303aa01e51eb396eb907f51eda205a203c29f627873ced1", func := "fulling/fullinglaw12.EgraphOrder", spec := "egraphOrder", plainKeys := false, apart := false }
def EgraphOrderSaid : Prop := egraphOrderRow.holds Try.pinned (OpenSpec.ofChange egraphOrderSpec)

/-- ITS FALSE NEIGHBOUR: 'it returns false'. Refute it at one input. -/
def egraphOrderWrong : ChangeSpec := { name := "egraphOrder", fn := fun _ => fun
  | [d1, d2] => { results := [.lit (.bool false)], args := [d1, d2] }
  | _ => none }
def EgraphOrderWrongFalsely : Prop := egraphOrderRow.holds Try.pinned (OpenSpec.ofChange egraphOrderWrong)

/-- 'fullinglaw12.EgraphDistinct': WHATEVER THE INPUT: true; the input reads as it did. -/
def egraphDistinctSpec : ChangeSpec := { name := "egraphDistinct", fn := fun _ => fun
  | [d1, d2] => { results := [.lit (.bool true)], args := [d1, d2] }
  | _ => none }
def egraphDistinctRow : OpenClaim := { program := "ytigambcefdeaoaa", sum := "0a3a6619ae2ead16c303aa01e51eb396eb907f51eda205a203c29f627873ced1", func := "fulling/fullinglaw12.EgraphDistinct", spec := "egraphDistinct", plainKeys := false, apart := false }
def EgraphDistinctSaid : Prop := egraphDistinctRow.holds Try.pinned (OpenSpec.ofChange egraphDistinctSpec)

/-- ITS FALSE NEIGHBOUR: 'it returns false'. Refute it at one input. -/
def egraphDistinctWrong : ChangeSpec := { name := "egraphDistinct", fn := fun _ => fun
  | [d1, d2] => { results := [.lit (.bool false)], args := [d1, d2] }
  | _ => none }
def EgraphDistinctWrongFalsely : Prop := egraphDistinctRow.holds Try.pinned (OpenSpec.ofChange egraphDistinctWrong)

/-- 'fullinglaw12.EgraphNoChange': WHATEVER THE INPUT: true; the input reads as it did. -/
def egraphNoChangeSpec : ChangeSpec := { name := "egraphNoChange", fn := fun _ => fun
  | [d1, d2, d3, d4] => { results := [.lit (.bool true)], args := [d1, d2, d3, d4] }
  | _ => none }
def egraphNoChangeRow : OpenClaim := { program := "ytigambcefdeaoaa", sum := "0a3a6619ae2ead16c303aa01e51eb396eb907f51eda205a203c29f627873ced1", func := "fulling/fullinglaw12.EgraphNoChange", spec := "egraphNoChange", plainKeys := false, apart := false }
def EgraphNoChangeSaid : Prop := egraphNoChangeRow.holds Try.pinned (OpenSpec.ofChange egraphNoChangeSpec)

/-- ITS FALSE NEIGHBOUR: 'it returns false'. Refute it at one input. -/
def egraphNoChangeWrong : ChangeSpec := { name := "egraphNoChange", fn := fun _ => fun
  | [d1, d2, d3, d4] => { results := [.lit (.bool false)], args := [d1, d2, d3, d4] }
  | _ => none }
def EgraphNoChangeWrongFalsely : Prop := egraphNoChangeRow.holds Try.pinned (OpenSpec.ofChange egraphNoChangeWrong)

/-- 'fullinglaw12.EgraphReference': WHATEVER THE INPUT: true; the input reads as it did. -/
def egraphReferenceSpec : ChangeSpec := { name := "egraphReference", fn := fun _ => fun
  | [d1, d2, d3, d4] => { results := [.lit (.bool true)], args := [d1, d2, d3, d4] }
  | _ => none }
def egraphReferenceRow : OpenClaim := { program := "ytigambcefdeaoaa", sum := "0a3a6619ae2ead16c303aa01e51eb396eb907f51eda205a203c29f627873ced1", func := "fulling/fullinglaw12.EgraphReference", spec := "egraphReference", plainKeys := false, apart := false }
def EgraphReferenceSaid : Prop := egraphReferenceRow.holds Try.pinned (OpenSpec.ofChange egraphReferenceSpec)

/-- ITS FALSE NEIGHBOUR: 'it returns false'. Refute it at one input. -/
def egraphReferenceWrong : ChangeSpec := { name := "egraphReference", fn := fun _ => fun
  | [d1, d2, d3, d4] => { results := [.lit (.bool false)], args := [d1, d2, d3, d4] }
  | _ => none }
def EgraphReferenceWrongFalsely : Prop := egraphReferenceRow.holds Try.pinned (OpenSpec.ofChange egraphReferenceWrong)

/-- 'fullinglaw12.EgraphRebuildCloses': WHATEVER THE INPUT: true; the input reads as it did. -/
def egraphRebuildClosesSpec : ChangeSpec := { name := "egraphRebuildCloses", fn := fun _ => fun
  | [d1, d2] => { results := [.lit (.bool true)], args := [d1, d2] }
  | _ => none }
def egraphRebuildClosesRow : OpenClaim := { program := "ytigambcefdeaoaa", sum := "0a3a6619ae2ead16c303aa01e51eb396eb907f51eda205a203c29f627873ced1", func := "fulling/fullinglaw12.EgraphRebuildCloses", spec := "egraphRebuildCloses", plainKeys := false, apart := false }
def EgraphRebuildClosesSaid : Prop := egraphRebuildClosesRow.holds Try.pinned (OpenSpec.ofChange egraphRebuildClosesSpec)

/-- ITS FALSE NEIGHBOUR: 'it returns false'. Refute it at one input. -/
def egraphRebuildClosesWrong : ChangeSpec := { name := "egraphRebuildCloses", fn := fun _ => fun
  | [d1, d2] => { results := [.lit (.bool false)], args := [d1, d2] }
  | _ => none }
def EgraphRebuildClosesWrongFalsely : Prop := egraphRebuildClosesRow.holds Try.pinned (OpenSpec.ofChange egraphRebuildClosesWrong)

/-- 'fullinglaw12.EgraphAddCongruent': WHATEVER THE INPUT: true; the input reads as it did. -/
def egraphAddCongruentSpec : ChangeSpec := { name := "egraphAddCongruent", fn := fun _ => fun
  | [d1, d2] => { results := [.lit (.bool true)], args := [d1, d2] }
  | _ => none }
def egraphAddCongruentRow : OpenClaim := { program := "ytigambcefdeaoaa", sum := "0a3a6619ae2ead16c303aa01e51eb396eb907f51eda205a203c29f627873ced1", func := "fulling/fullinglaw12.EgraphAddCongruent", spec := "egraphAddCongruent", plainKeys := false, apart := false }
def EgraphAddCongruentSaid : Prop := egraphAddCongruentRow.holds Try.pinned (OpenSpec.ofChange egraphAddCongruentSpec)

/-- ITS FALSE NEIGHBOUR: 'it returns false'. Refute it at one input. -/
def egraphAddCongruentWrong : ChangeSpec := { name := "egraphAddCongruent", fn := fun _ => fun
  | [d1, d2] => { results := [.lit (.bool false)], args := [d1, d2] }
  | _ => none }
def EgraphAddCongruentWrongFalsely : Prop := egraphAddCongruentRow.holds Try.pinned (OpenSpec.ofChange egraphAddCongruentWrong)

/- THE SECOND FORM. 'bulk': how many values and letters a reading holds, each counted each time it is reached (what is shared counts as often as it is met; a slice's spare places count too). A statement '..UptoSaid' is the law's where the arguments, and the package variables that the reading takes, are together of bulk at most 1048576: NARROWER than '..Said'. Prove '..Said' where nothing that the law and all that it calls make is longer than what came in: it says more and counts as full. Else prove '..UptoSaid'. A law counts once. -/
mutual
def uptoBulk {H : Type} : DataW H → Nat
  | .lit (.string bytes) => bytes.length + 1
  | .lit _ => 1
  | .nil => 1
  | .ptr d => uptoBulk d + 1
  | .slice elems spare => uptoBulkAll elems + uptoBulkAll spare + 1
  | .agg parts => uptoBulkAll parts + 1
  | .iface _ d => uptoBulk d + 1
  | .map entries => uptoBulkEntries entries + 1
  | .held _ => 1
def uptoBulkAll {H : Type} : List (DataW H) → Nat
  | [] => 0
  | d :: r => uptoBulk d + uptoBulkAll r
def uptoBulkEntries {H : Type} : List (Lit × DataW H) → Nat
  | [] => 0
  | x :: r => uptoBulkEntry x + uptoBulkEntries r
def uptoBulkEntry {H : Type} : Lit × DataW H → Nat
  | (.string bytes, d) => bytes.length + uptoBulk d + 1
  | (_, d) => uptoBulk d + 1
 end
def uptoSmall : (H : Type) → List (DataW H) → Bool := fun _ ds => decide (uptoBulkAll ds ≤ 1048576)
def OpenSpec.upto (s : _root_.Go.ChangeSpec) : _root_.Go.OpenSpec := { _root_.Go.OpenSpec.ofChange s with cond := some uptoSmall }

/-- 'fullinglaw12.EgraphExamples', WHERE WHAT IT READS IS OF BULK AT MOST 1048576: true; the input reads as it did. -/
def egraphExamplesUptoRow : OpenClaim := { program := "ytigambcefdeaoaa", sum := "0a3a6619ae2ead16c303aa01e51eb396eb907f51eda205a203c29f627873ced1", func := "fulling/fullinglaw12.EgraphExamples", spec := "egraphExamples", plainKeys := false, apart := false, narrowed := true }
def EgraphExamplesUptoSaid : Prop := egraphExamplesUptoRow.holds Try.pinned (OpenSpec.upto egraphExamplesSpec)

/-- 'fullinglaw12.EgraphOrder', WHERE WHAT IT READS IS OF BULK AT MOST 1048576: true; the input reads as it did. -/
def egraphOrderUptoRow : OpenClaim := { program := "ytigambcefdeaoaa", sum := "0a3a6619ae2ead16c303aa01e51eb396eb907f51eda205a203c29f627873ced1", func := "fulling/fullinglaw12.EgraphOrder", spec := "egraphOrder", plainKeys := false, apart := false, narrowed := true }
def EgraphOrderUptoSaid : Prop := egraphOrderUptoRow.holds Try.pinned (OpenSpec.upto egraphOrderSpec)

/-- 'fullinglaw12.EgraphDistinct', WHERE WHAT IT READS IS OF BULK AT MOST 1048576: true; the input reads as it did. -/
def egraphDistinctUptoRow : OpenClaim := { program := "ytigambcefdeaoaa", sum := "0a3a6619ae2ead16c303aa01e51eb396eb907f51eda205a203c29f627873ced1", func := "fulling/fullinglaw12.EgraphDistinct", spec := "egraphDistinct", plainKeys := false, apart := false, narrowed := true }
def EgraphDistinctUptoSaid : Prop := egraphDistinctUptoRow.holds Try.pinned (OpenSpec.upto egraphDistinctSpec)

/-- 'fullinglaw12.EgraphNoChange', WHERE WHAT IT READS IS OF BULK AT MOST 1048576: true; the input reads as it did. -/
def egraphNoChangeUptoRow : OpenClaim := { program := "ytigambcefdeaoaa", sum := "0a3a6619ae2ead16c303aa01e51eb396eb907f51eda205a203c29f627873ced1", func := "fulling/fullinglaw12.EgraphNoChange", spec := "egraphNoChange", plainKeys := false, apart := false, narrowed := true }
def EgraphNoChangeUptoSaid : Prop := egraphNoChangeUptoRow.holds Try.pinned (OpenSpec.upto egraphNoChangeSpec)

/-- 'fullinglaw12.EgraphReference', WHERE WHAT IT READS IS OF BULK AT MOST 1048576: true; the input reads as it did. -/
def egraphReferenceUptoRow : OpenClaim := { program := "ytigambcefdeaoaa", sum := "0a3a6619ae2ead16c303aa01e51eb396eb907f51eda205a203c29f627873ced1", func := "fulling/fullinglaw12.EgraphReference", spec := "egraphReference", plainKeys := false, apart := false, narrowed := true }
def EgraphReferenceUptoSaid : Prop := egraphReferenceUptoRow.holds Try.pinned (OpenSpec.upto egraphReferenceSpec)

/-- 'fullinglaw12.EgraphRebuildCloses', WHERE WHAT IT READS IS OF BULK AT MOST 1048576: true; the input reads as it did. -/
def egraphRebuildClosesUptoRow : OpenClaim := { program := "ytigambcefdeaoaa", sum := "0a3a6619ae2ead16c303aa01e51eb396eb907f51eda205a203c29f627873ced1", func := "fulling/fullinglaw12.EgraphRebuildCloses", spec := "egraphRebuildCloses", plainKeys := false, apart := false, narrowed := true }
def EgraphRebuildClosesUptoSaid : Prop := egraphRebuildClosesUptoRow.holds Try.pinned (OpenSpec.upto egraphRebuildClosesSpec)

/-- 'fullinglaw12.EgraphAddCongruent', WHERE WHAT IT READS IS OF BULK AT MOST 1048576: true; the input reads as it did. -/
def egraphAddCongruentUptoRow : OpenClaim := { program := "ytigambcefdeaoaa", sum := "0a3a6619ae2ead16c303aa01e51eb396eb907f51eda205a203c29f627873ced1", func := "fulling/fullinglaw12.EgraphAddCongruent", spec := "egraphAddCongruent", plainKeys := false, apart := false, narrowed := true }
def EgraphAddCongruentUptoSaid : Prop := egraphAddCongruentUptoRow.holds Try.pinned (OpenSpec.upto egraphAddCongruentSpec)

end Rows
end Go.Proofs.Ytigambcefdeaoaa
