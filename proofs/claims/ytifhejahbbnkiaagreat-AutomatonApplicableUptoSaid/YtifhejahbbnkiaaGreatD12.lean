/-
  Lemmas and walks that the claim rests on, part 12 (packed by a program).
-/
import Derived.Test.YtifhejahbbnkiaaGreatRows
import Derived.Test.YtifhejahbbnkiaaGreatChecked
import Derived.JoinedOf
import Derived.WalkKit
namespace Go.Proofs.YtifhejahbbnkiaaGreat
open Go.ChangeShapes Go.WideShapes Go.RowKit
theorem jf1_AutomatonApplicable:laidOutB Tryz.prog=true:=by kernel_rfl
theorem jf2_AutomatonApplicable:mapsRowed Tryz.prog=true:=by kernel_rfl
theorem jf3_AutomatonApplicable:Tryz.prog.stopsHeard=true:=by kernel_rfl
theorem jf4_AutomatonApplicable:(Rows.automatonApplicableUptoRow.inPlace==Tryz.prog.inPlace 4)=true:=by kernel_rfl
theorem jf5_AutomatonApplicable:(Rows.automatonApplicableUptoRow.unfollowed==Tryz.prog.unfollowed 4)=true:=by kernel_rfl
theorem jf6_AutomatonApplicable:(Rows.automatonApplicableUptoRow.recurses==Tryz.prog.recurses 4)=true:=by kernel_rfl
theorem jf7_AutomatonApplicable:(Rows.automatonApplicableUptoRow.named==Tryz.prog.varsNamed 4)=true:=by kernel_rfl
theorem jf8_AutomatonApplicable:Tryz.prog.mayEnter=true:=by kernel_rfl
theorem jf9_AutomatonApplicable:(Rows.automatonApplicableUptoRow.lifted==Tryz.prog.liftsFinal)=true:=by kernel_rfl
theorem jf10_AutomatonApplicable:(Tryz.prog.make==some Rows.automatonApplicableUptoRow.make)=true:=by kernel_rfl
theorem closed_AutomatonApplicable:joinedFacts Tryz.prog 4 Tryz.f4 (Rows.OpenSpec.upto Rows.automatonApplicableSpec).bare Rows.automatonApplicableUptoRow=true:=by
 unfold joinedFacts;simp only [Bool.and_eq_true];refine ⟨⟨⟨⟨⟨⟨⟨⟨⟨⟨⟨⟨⟨⟨⟨⟨⟨⟨⟨⟨⟨⟨⟨⟨⟨⟨⟨⟨⟨⟨⟨?_,?_⟩,?_⟩,?_⟩,?_⟩,?_⟩,?_⟩,?_⟩,?_⟩,?_⟩,?_⟩,?_⟩,?_⟩,?_⟩,?_⟩,?_⟩,?_⟩,?_⟩,?_⟩,?_⟩,?_⟩,?_⟩,?_⟩,?_⟩,?_⟩,?_⟩,?_⟩,?_⟩,?_⟩,?_⟩,?_⟩,?_⟩
 all_goals first | with_reducible exact jf1_AutomatonApplicable | with_reducible exact jf2_AutomatonApplicable | with_reducible exact jf3_AutomatonApplicable | with_reducible exact jf4_AutomatonApplicable | with_reducible exact jf5_AutomatonApplicable | with_reducible exact jf6_AutomatonApplicable | with_reducible exact jf7_AutomatonApplicable | with_reducible exact jf8_AutomatonApplicable | with_reducible exact jf9_AutomatonApplicable | with_reducible exact jf10_AutomatonApplicable | kernel_rfl
end Go.Proofs.YtifhejahbbnkiaaGreat
