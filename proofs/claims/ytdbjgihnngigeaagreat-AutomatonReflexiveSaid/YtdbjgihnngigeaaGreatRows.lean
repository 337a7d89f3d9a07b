/-
  NARROWER THAN 'FOR EVERY INPUT', by the rows' own cells (each row's printed sentence says how): AutomatonApplicable: loops · AutomatonReference: loops.
  DERIVED. THE GIVEN ROWS OF THIS SEAT. 5 by the template 'for every input the law returns true; each argument reads behind the call as it read before'; 0 by the template 'total and deterministic' (their statements: YtdbjgihnngigeaaGreatTotals.lean).
  GIVEN WITH THE SEED: the statements are not yours to turn. If you find one false, say at which input.
  Laid BY PROGRAM, IN A SANDBOX (cutbox-rows.mjs): the forced cells as the released guide's own fill.sh prints them over the translation 1e5d531992ffb882… (all of the seat's roots in one cut). By AI agents, Wed Nov 11 2026. No macro, syntax, notation, axiom, sorry.
-/
import Derived.Test.YtdbjgihnngigeaaGreatChecked
import GoSem.Claim
import GoSem.ClaimJoined
import GoSem.ClaimMapViews
import Derived.JoinedTies
import Derived.KernelRfl
namespace Go.Proofs.YtdbjgihnngigeaaGreat
/- THE CELL 'sum', in the pinned program and in every row, IS THE sha256 OF THE DUMP (.gsa) THAT YtdbjgihnngigeaaGreatProg.lean LOADS. Nothing in Lean hashes anything: it is a label: what it is worth is what the hold of that sum in a sandbox is worth. -/
noncomputable def Tryz.pinned : Pinned := { name := "ytdbjgihnngigeaagreat", sum := "1e5d531992ffb882bd57e788ec3da6f1581c52b59a80faee13bdc68c283ab32e", checked := Tryz.checked }
namespace Rows
def none {H : Type} : Left H := { results := [], args := [] }

/-- 'fullinglaw19.AutomatonApplicable': WHATEVER THE INPUT: true; the input reads as it did. -/
def automatonApplicableSpec : ChangeSpec := { name := "automatonApplicable", fn := fun _ => fun
  | [d1, d2, d3] => { results := [.lit (.bool true)], args := [d1, d2, d3] }
  | _ => none }
def automatonApplicableRow : OpenClaim := { program := "ytdbjgihnngigeaagreat", sum := "1e5d531992ffb882bd57e788ec3da6f1581c52b59a80faee13bdc68c283ab32e", func := "fulling/fullinglaw19.AutomatonApplicable", spec := "automatonApplicable", inPlace := ["internal/reflectlite.ValueOf", "internal/reflectlite.Swapper", "(internal/reflectlite.Value).Len"], unfollowed := true, recurses := true, loops := true, apart := false }
def AutomatonApplicableSaid : Prop := automatonApplicableRow.holds Tryz.pinned (OpenSpec.ofChange automatonApplicableSpec)

/-- ITS FALSE NEIGHBOUR: 'it returns false'. Refute it at one input. -/
def automatonApplicableWrong : ChangeSpec := { name := "automatonApplicable", fn := fun _ => fun
  | [d1, d2, d3] => { results := [.lit (.bool false)], args := [d1, d2, d3] }
  | _ => none }
def AutomatonApplicableWrongFalsely : Prop := automatonApplicableRow.holds Tryz.pinned (OpenSpec.ofChange automatonApplicableWrong)

/-- 'fullinglaw19.AutomatonReference': WHATEVER THE INPUT: true; the input reads as it did. -/
def automatonReferenceSpec : ChangeSpec := { name := "automatonReference", fn := fun _ => fun
  | [d1, d2] => { results := [.lit (.bool true)], args := [d1, d2] }
  | _ => none }
def automatonReferenceRow : OpenClaim := { program := "ytdbjgihnngigeaagreat", sum := "1e5d531992ffb882bd57e788ec3da6f1581c52b59a80faee13bdc68c283ab32e", func := "fulling/fullinglaw19.AutomatonReference", spec := "automatonReference", inPlace := ["internal/reflectlite.ValueOf", "internal/reflectlite.Swapper", "(internal/reflectlite.Value).Len"], unfollowed := true, recurses := true, loops := true, apart := false }
def AutomatonReferenceSaid : Prop := automatonReferenceRow.holds Tryz.pinned (OpenSpec.ofChange automatonReferenceSpec)

/-- ITS FALSE NEIGHBOUR: 'it returns false'. Refute it at one input. -/
def automatonReferenceWrong : ChangeSpec := { name := "automatonReference", fn := fun _ => fun
  | [d1, d2] => { results := [.lit (.bool false)], args := [d1, d2] }
  | _ => none }
def AutomatonReferenceWrongFalsely : Prop := automatonReferenceRow.holds Tryz.pinned (OpenSpec.ofChange automatonReferenceWrong)

/-- 'fullinglaw19.AutomatonCheckReference': WHATEVER THE INPUT: true; the input reads as it did. -/
def automatonCheckReferenceSpec : ChangeSpec := { name := "automatonCheckReference", fn := fun _ => fun
  | [d1, d2, d3, d4] => { results := [.lit (.bool true)], args := [d1, d2, d3, d4] }
  | _ => none }
def automatonCheckReferenceRow : OpenClaim := { program := "ytdbjgihnngigeaagreat", sum := "1e5d531992ffb882bd57e788ec3da6f1581c52b59a80faee13bdc68c283ab32e", func := "fulling/fullinglaw19.AutomatonCheckReference", spec := "automatonCheckReference", inPlace := ["internal/reflectlite.ValueOf", "internal/reflectlite.Swapper", "(internal/reflectlite.Value).Len"], unfollowed := true, recurses := true, apart := false }
def AutomatonCheckReferenceSaid : Prop := automatonCheckReferenceRow.holds Tryz.pinned (OpenSpec.ofChange automatonCheckReferenceSpec)

/-- ITS FALSE NEIGHBOUR: 'it returns false'. Refute it at one input. -/
def automatonCheckReferenceWrong : ChangeSpec := { name := "automatonCheckReference", fn := fun _ => fun
  | [d1, d2, d3, d4] => { results := [.lit (.bool false)], args := [d1, d2, d3, d4] }
  | _ => none }
def AutomatonCheckReferenceWrongFalsely : Prop := automatonCheckReferenceRow.holds Tryz.pinned (OpenSpec.ofChange automatonCheckReferenceWrong)

/-- 'fullinglaw19.AutomatonRejects': WHATEVER THE INPUT: true; the input reads as it did. -/
def automatonRejectsSpec : ChangeSpec := { name := "automatonRejects", fn := fun _ => fun
  | [d1, d2, d3, d4, d5, d6, d7] => { results := [.lit (.bool true)], args := [d1, d2, d3, d4, d5, d6, d7] }
  | _ => none }
def automatonRejectsRow : OpenClaim := { program := "ytdbjgihnngigeaagreat", sum := "1e5d531992ffb882bd57e788ec3da6f1581c52b59a80faee13bdc68c283ab32e", func := "fulling/fullinglaw19.AutomatonRejects", spec := "automatonRejects", inPlace := ["internal/reflectlite.ValueOf", "internal/reflectlite.Swapper", "(internal/reflectlite.Value).Len"], unfollowed := true, recurses := true, apart := false }
def AutomatonRejectsSaid : Prop := automatonRejectsRow.holds Tryz.pinned (OpenSpec.ofChange automatonRejectsSpec)

/-- ITS FALSE NEIGHBOUR: 'it returns false'. Refute it at one input. -/
def automatonRejectsWrong : ChangeSpec := { name := "automatonRejects", fn := fun _ => fun
  | [d1, d2, d3, d4, d5, d6, d7] => { results := [.lit (.bool false)], args := [d1, d2, d3, d4, d5, d6, d7] }
  | _ => none }
def AutomatonRejectsWrongFalsely : Prop := automatonRejectsRow.holds Tryz.pinned (OpenSpec.ofChange automatonRejectsWrong)

/-- 'fullinglaw19.AutomatonReflexive': WHATEVER THE INPUT: true; the input reads as it did. -/
def automatonReflexiveSpec : ChangeSpec := { name := "automatonReflexive", fn := fun _ => fun
  | [d] => { results := [.lit (.bool true)], args := [d] }
  | _ => none }
def automatonReflexiveRow : OpenClaim := { program := "ytdbjgihnngigeaagreat", sum := "1e5d531992ffb882bd57e788ec3da6f1581c52b59a80faee13bdc68c283ab32e", func := "fulling/fullinglaw19.AutomatonReflexive", spec := "automatonReflexive", inPlace := ["internal/reflectlite.ValueOf", "internal/reflectlite.Swapper", "(internal/reflectlite.Value).Len"], unfollowed := true, recurses := true, apart := false }
def AutomatonReflexiveSaid : Prop := automatonReflexiveRow.holds Tryz.pinned (OpenSpec.ofChange automatonReflexiveSpec)

/-- ITS FALSE NEIGHBOUR: 'it returns false'. Refute it at one input. -/
def automatonReflexiveWrong : ChangeSpec := { name := "automatonReflexive", fn := fun _ => fun
  | [d] => { results := [.lit (.bool false)], args := [d] }
  | _ => none }
def AutomatonReflexiveWrongFalsely : Prop := automatonReflexiveRow.holds Tryz.pinned (OpenSpec.ofChange automatonReflexiveWrong)

/- THE SECOND FORM. 'bulk': how many values and letters a reading holds, each counted each time it is reached (what is shared counts as often as it is met; a slice's spare places count too). A statement '..UptoSaid' is the law's where the arguments, and the package variables that the reading takes, are together of bulk at most 1048576: NARROWER than '..Said'. Prove '..Said' where nothing that the law and all that it calls make is longer than what came in: it says more and counts as full. Else prove '..UptoSaid'. A law counts once. -/
mutual
def uptoBulk {H : Type} : DataW H → Nat
  | .lit (.string bytes) => bytes.length + 1
  | .lit _ => 1
  | .nil => 1
  | .ptr d => uptoBulk d + 1
  | .slice elems spare => uptoBulkAll elems + uptoBulkAll spare + 1
  | .agg parts => uptoBulkAll parts + 1
  | .iface _ d => uptoBulk d + 1
  | .map entries => uptoBulkEntries entries + 1
  | .held _ => 1
def uptoBulkAll {H : Type} : List (DataW H) → Nat
  | [] => 0
  | d :: r => uptoBulk d + uptoBulkAll r
def uptoBulkEntries {H : Type} : List (Lit × DataW H) → Nat
  | [] => 0
  | x :: r => uptoBulkEntry x + uptoBulkEntries r
def uptoBulkEntry {H : Type} : Lit × DataW H → Nat
  | (.string bytes, d) => bytes.length + uptoBulk d + 1
  | (_, d) => uptoBulk d + 1
 end
def uptoSmall : (H : Type) → List (DataW H) → Bool := fun _ ds => decide (uptoBulkAll ds ≤ 1048576)
def OpenSpec.upto (s : _root_.Go.ChangeSpec) : _root_.Go.OpenSpec := { _root_.Go.OpenSpec.ofChange s with cond := some uptoSmall }

/-- 'fullinglaw19.AutomatonApplicable', WHERE WHAT IT READS IS OF BULK AT MOST 1048576: true; the input reads as it did. -/
def automatonApplicableUptoRow : OpenClaim := { program := "ytdbjgihnngigeaagreat", sum := "1e5d531992ffb882bd57e788ec3da6f1581c52b59a80faee13bdc68c283ab32e", func := "fulling/fullinglaw19.AutomatonApplicable", spec := "automatonApplicable", inPlace := ["internal/reflectlite.ValueOf", "internal/reflectlite.Swapper", "(internal/reflectlite.Value).Len"], unfollowed := true, recurses := true, loops := true, apart := false, narrowed := true }
def AutomatonApplicableUptoSaid : Prop := automatonApplicableUptoRow.holds Tryz.pinned (OpenSpec.upto automatonApplicableSpec)

/-- 'fullinglaw19.AutomatonReference', WHERE WHAT IT READS IS OF BULK AT MOST 1048576: true; the input reads as it did. -/
def automatonReferenceUptoRow : OpenClaim := { program := "ytdbjgihnngigeaagreat", sum := "1e5d531992ffb882bd57e788ec3da6f1581c52b59a80faee13bdc68c283ab32e", func := "fulling/fullinglaw19.AutomatonReference", spec := "automatonReference", inPlace := ["internal/reflectlite.ValueOf", "internal/reflectlite.Swapper", "(internal/reflectlite.Value).Len"], unfollowed := true, recurses := true, loops := true, apart := false, narrowed := true }
def AutomatonReferenceUptoSaid : Prop := automatonReferenceUptoRow.holds Tryz.pinned (OpenSpec.upto automatonReferenceSpec)

/-- 'fullinglaw19.AutomatonCheckReference', WHERE WHAT IT READS IS OF BULK AT MOST 1048576: true; the input reads as it did. -/
def automatonCheckReferenceUptoRow : OpenClaim := { program := "ytdbjgihnngigeaagreat", sum := "1e5d531992ffb882bd57e788ec3da6f1581c52b59a80faee13bdc68c283ab32e", func := "fulling/fullinglaw19.AutomatonCheckReference", spec := "automatonCheckReference", inPlace := ["internal/reflectlite.ValueOf", "internal/reflectlite.Swapper", "(internal/reflectlite.Value).Len"], unfollowed := true, recurses := true, apart := false, narrowed := true }
def AutomatonCheckReferenceUptoSaid : Prop := automatonCheckReferenceUptoRow.holds Tryz.pinned (OpenSpec.upto automatonCheckReferenceSpec)

/-- 'fullinglaw19.AutomatonRejects', WHERE WHAT IT READS IS OF BULK AT MOST 1048576: true; the input reads as it did. -/
def automatonRejectsUptoRow : OpenClaim := { program := "ytdbjgihnngigeaagreat", sum := "1e5d531992ffb882bd57e788ec3da6f1581c52b59a80faee13bdc68c283ab32e", func := "fulling/fullinglaw19.AutomatonRejects", spec := "automatonRejects", inPlace := ["internal/reflectlite.ValueOf", "internal/reflectlite.Swapper", "(internal/reflectlite.Value).Len"], unfollowed := true, recurses := true, apart := false, narrowed := true }
def AutomatonRejectsUptoSaid : Prop := automatonRejectsUptoRow.holds Tryz.pinned (OpenSpec.upto automatonRejectsSpec)

/-- 'fullinglaw19.AutomatonReflexive', WHERE WHAT IT READS IS OF BULK AT MOST 1048576: true; the input reads as it did. -/
def automatonReflexiveUptoRow : OpenClaim := { program := "ytdbjgihnngigeaagreat", sum := "1e5d531992ffb882bd57e788ec3da6f1581c52b59a80faee13bdc68c283ab32e", func := "fulling/fullinglaw19.AutomatonReflexive", spec := "automatonReflexive", inPlace := ["internal/reflectlite.ValueOf", "internal/reflectlite.Swapper", "(internal/reflectlite.Value).Len"], unfollowed := true, recurses := true, apart := false, narrowed := true }
def AutomatonReflexiveUptoSaid : Prop := automatonReflexiveUptoRow.holds Tryz.pinned (OpenSpec.upto automatonReflexiveSpec)

end Rows
end Go.Proofs.YtdbjgihnngigeaaGreat
