/-
  NARROWER THAN 'FOR EVERY INPUT', by the rows' own cells (each row's printed sentence says how): RulesValidReference: loops.
  DERIVED. THE GIVEN ROWS OF THIS SEAT. 3 by the template 'for every input the law returns true; each argument reads behind the call as it read before'; 0 by the template 'total and deterministic' (their statements: YtblkgjdhaibhgaaGreatTotals.lean).
  GIVEN WITH THE SEED: the statements are not yours to turn. If you find one false, say at which input.
  Laid BY PROGRAM, IN A SANDBOX (cutbox-rows.mjs): the forced cells as the released guide's own fill.sh prints them over the translation 9831301193e4a0bc… (all of the seat's roots in one cut). By AI agents, Wed Nov 11 2026. No macro, syntax, notation, axiom, sorry.
-/
import Derived.Test.YtblkgjdhaibhgaaGreatChecked
import GoSem.Claim
import GoSem.ClaimJoined
import GoSem.ClaimMapViews
import Derived.JoinedTies
import Derived.KernelRfl
namespace Go.Proofs.YtblkgjdhaibhgaaGreat
/- THE CELL 'sum', in the pinned program and in every row, IS THE sha256 OF THE DUMP (.gsa) THAT YtblkgjdhaibhgaaGreatProg.lean LOADS. Nothing in Lean hashes anything: it is a label: what it is worth is what the hold of that sum in a sandbox is worth. -/
noncomputable def Tryz.pinned : Pinned := { name := "ytblkgjdhaibhgaagreat", sum := "9831301193e4a0bc3ae0e4089366c6c93f2adab809cd3fe52d1fb78772c657b3", checked := Tryz.checked }
namespace Rows
def none {H : Type} : Left H := { results := [], args := [] }

/-- 'fullinglaw17.RulesReference': WHATEVER THE INPUT: true; the input reads as it did. -/
def rulesReferenceSpec : ChangeSpec := { name := "rulesReference", fn := fun _ => fun
  | [d1, d2, d3, d4] => { results := [.lit (.bool true)], args := [d1, d2, d3, d4] }
  | _ => none }
def rulesReferenceRow : OpenClaim := { program := "ytblkgjdhaibhgaagreat", sum := "9831301193e4a0bc3ae0e4089366c6c93f2adab809cd3fe52d1fb78772c657b3", func := "fulling/fullinglaw17.RulesReference", spec := "rulesReference", unfollowed := true, recurses := true, apart := false }
def RulesReferenceSaid : Prop := rulesReferenceRow.holds Tryz.pinned (OpenSpec.ofChange rulesReferenceSpec)

/-- ITS FALSE NEIGHBOUR: 'it returns false'. Refute it at one input. -/
def rulesReferenceWrong : ChangeSpec := { name := "rulesReference", fn := fun _ => fun
  | [d1, d2, d3, d4] => { results := [.lit (.bool false)], args := [d1, d2, d3, d4] }
  | _ => none }
def RulesReferenceWrongFalsely : Prop := rulesReferenceRow.holds Tryz.pinned (OpenSpec.ofChange rulesReferenceWrong)

/-- 'fullinglaw17.RulesAppend': WHATEVER THE INPUT: true; the input reads as it did. -/
def rulesAppendSpec : ChangeSpec := { name := "rulesAppend", fn := fun _ => fun
  | [d1, d2] => { results := [.lit (.bool true)], args := [d1, d2] }
  | _ => none }
def rulesAppendRow : OpenClaim := { program := "ytblkgjdhaibhgaagreat", sum := "9831301193e4a0bc3ae0e4089366c6c93f2adab809cd3fe52d1fb78772c657b3", func := "fulling/fullinglaw17.RulesAppend", spec := "rulesAppend", unfollowed := true, recurses := true, apart := false }
def RulesAppendSaid : Prop := rulesAppendRow.holds Tryz.pinned (OpenSpec.ofChange rulesAppendSpec)

/-- ITS FALSE NEIGHBOUR: 'it returns false'. Refute it at one input. -/
def rulesAppendWrong : ChangeSpec := { name := "rulesAppend", fn := fun _ => fun
  | [d1, d2] => { results := [.lit (.bool false)], args := [d1, d2] }
  | _ => none }
def RulesAppendWrongFalsely : Prop := rulesAppendRow.holds Tryz.pinned (OpenSpec.ofChange rulesAppendWrong)

/-- 'fullinglaw17.RulesValidReference': WHATEVER THE INPUT: true; the input reads as it did. -/
def rulesValidReferenceSpec : ChangeSpec := { name := "rulesValidReference", fn := fun _ => fun
  | [d1, d2, d3, d4, d5, d6] => { results := [.lit (.bool true)], args := [d1, d2, d3, d4, d5, d6] }
  | _ => none }
def rulesValidReferenceRow : OpenClaim := { program := "ytblkgjdhaibhgaagreat", sum := "9831301193e4a0bc3ae0e4089366c6c93f2adab809cd3fe52d1fb78772c657b3", func := "fulling/fullinglaw17.RulesValidReference", spec := "rulesValidReference", unfollowed := true, recurses := true, loops := true, apart := false }
def RulesValidReferenceSaid : Prop := rulesValidReferenceRow.holds Tryz.pinned (OpenSpec.ofChange rulesValidReferenceSpec)

/-- ITS FALSE NEIGHBOUR: 'it returns false'. Refute it at one input. -/
def rulesValidReferenceWrong : ChangeSpec := { name := "rulesValidReference", fn := fun _ => fun
  | [d1, d2, d3, d4, d5, d6] => { results := [.lit (.bool false)], args := [d1, d2, d3, d4, d5, d6] }
  | _ => none }
def RulesValidReferenceWrongFalsely : Prop := rulesValidReferenceRow.holds Tryz.pinned (OpenSpec.ofChange rulesValidReferenceWrong)

/- THE SECOND FORM. 'bulk': how many values and letters a reading holds, each counted each time it is reached (what is shared counts as often as it is met; a slice's spare places count too). A statement '..UptoSaid' is the law's where the arguments, and the package variables that the reading takes, are together of bulk at most 1048576: NARROWER than '..Said'. Prove '..Said' where nothing that the law and all that it calls make is longer than what came in: it says more and counts as full. Else prove '..UptoSaid'. A law counts once. -/
mutual
def uptoBulk {H : Type} : DataW H → Nat
  | .lit (.string bytes) => bytes.length + 1
  | .lit _ => 1
  | .nil => 1
  | .ptr d => uptoBulk d + 1
  | .slice elems spare => uptoBulkAll elems + uptoBulkAll spare + 1
  | .agg parts => uptoBulkAll parts + 1
  | .iface _ d => uptoBulk d + 1
  | .map entries => uptoBulkEntries entries + 1
  | .held _ => 1
def uptoBulkAll {H : Type} : List (DataW H) → Nat
  | [] => 0
  | d :: r => uptoBulk d + uptoBulkAll r
def uptoBulkEntries {H : Type} : List (Lit × DataW H) → Nat
  | [] => 0
  | x :: r => uptoBulkEntry x + uptoBulkEntries r
def uptoBulkEntry {H : Type} : Lit × DataW H → Nat
  | (.string bytes, d) => bytes.length + uptoBulk d + 1
  | (_, d) => uptoBulk d + 1
 end
def uptoSmall : (H : Type) → List (DataW H) → Bool := fun _ ds => decide (uptoBulkAll ds ≤ 1048576)
def OpenSpec.upto (s : _root_.Go.ChangeSpec) : _root_.Go.OpenSpec := { _root_.Go.OpenSpec.ofChange s with cond := some uptoSmall }

/-- 'fullinglaw17.RulesReference', WHERE WHAT IT READS IS OF BULK AT MOST 1048576: true; the input reads as it did. -/
def rulesReferenceUptoRow : OpenClaim := { program := "ytblkgjdhaibhgaagreat", sum := "9831301193e4a0bc3ae0e4089366c6c93f2adab809cd3fe52d1fb78772c657b3", func := "fulling/fullinglaw17.RulesReference", spec := "rulesReference", unfollowed := true, recurses := true, apart := false, narrowed := true }
def RulesReferenceUptoSaid : Prop := rulesReferenceUptoRow.holds Tryz.pinned (OpenSpec.upto rulesReferenceSpec)

/-- 'fullinglaw17.RulesAppend', WHERE WHAT IT READS IS OF BULK AT MOST 1048576: true; the input reads as it did. -/
def rulesAppendUptoRow : OpenClaim := { program := "ytblkgjdhaibhgaagreat", sum := "9831301193e4a0bc3ae0e4089366c6c93f2adab809cd3fe52d1fb78772c657b3", func := "fulling/fullinglaw17.RulesAppend", spec := "rulesAppend", unfollowed := true, recurses := true, apart := false, narrowed := true }
def RulesAppendUptoSaid : Prop := rulesAppendUptoRow.holds Tryz.pinned (OpenSpec.upto rulesAppendSpec)

/-- 'fullinglaw17.RulesValidReference', WHERE WHAT IT READS IS OF BULK AT MOST 1048576: true; the input reads as it did. -/
def rulesValidReferenceUptoRow : OpenClaim := { program := "ytblkgjdhaibhgaagreat", sum := "9831301193e4a0bc3ae0e4089366c6c93f2adab809cd3fe52d1fb78772c657b3", func := "fulling/fullinglaw17.RulesValidReference", spec := "rulesValidReference", unfollowed := true, recurses := true, loops := true, apart := false, narrowed := true }
def RulesValidReferenceUptoSaid : Prop := rulesValidReferenceUptoRow.holds Tryz.pinned (OpenSpec.upto rulesValidReferenceSpec)

end Rows
end Go.Proofs.YtblkgjdhaibhgaaGreat
