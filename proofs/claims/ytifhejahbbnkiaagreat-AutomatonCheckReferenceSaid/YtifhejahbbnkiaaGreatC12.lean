/-
  Lemmas and walks that the claim rests on, part 12 (packed by a program).
-/
import Derived.Test.YtifhejahbbnkiaaGreatRows
import Derived.Test.YtifhejahbbnkiaaGreatChecked
import Derived.JoinedOf
import Derived.WalkKit
namespace Go.Proofs.YtifhejahbbnkiaaGreat
open Go.ChangeShapes Go.WideShapes Go.RowKit
theorem jf1_AutomatonCheckReference:laidOutB Tryz.prog=true:=by kernel_rfl
theorem jf2_AutomatonCheckReference:mapsRowed Tryz.prog=true:=by kernel_rfl
theorem jf3_AutomatonCheckReference:Tryz.prog.stopsHeard=true:=by kernel_rfl
theorem jf4_AutomatonCheckReference:(Rows.automatonCheckReferenceRow.inPlace==Tryz.prog.inPlace 5)=true:=by kernel_rfl
theorem jf5_AutomatonCheckReference:(Rows.automatonCheckReferenceRow.unfollowed==Tryz.prog.unfollowed 5)=true:=by kernel_rfl
theorem jf6_AutomatonCheckReference:(Rows.automatonCheckReferenceRow.recurses==Tryz.prog.recurses 5)=true:=by kernel_rfl
theorem jf7_AutomatonCheckReference:(Rows.automatonCheckReferenceRow.named==Tryz.prog.varsNamed 5)=true:=by kernel_rfl
theorem jf8_AutomatonCheckReference:Tryz.prog.mayEnter=true:=by kernel_rfl
theorem jf9_AutomatonCheckReference:(Rows.automatonCheckReferenceRow.lifted==Tryz.prog.liftsFinal)=true:=by kernel_rfl
theorem jf10_AutomatonCheckReference:(Tryz.prog.make==some Rows.automatonCheckReferenceRow.make)=true:=by kernel_rfl
theorem closed_AutomatonCheckReference:joinedFacts Tryz.prog 5 Tryz.f5 Rows.automatonCheckReferenceSpec Rows.automatonCheckReferenceRow=true:=by
 unfold joinedFacts;simp only [Bool.and_eq_true];refine ⟨⟨⟨⟨⟨⟨⟨⟨⟨⟨⟨⟨⟨⟨⟨⟨⟨⟨⟨⟨⟨⟨⟨⟨⟨⟨⟨⟨⟨⟨⟨?_,?_⟩,?_⟩,?_⟩,?_⟩,?_⟩,?_⟩,?_⟩,?_⟩,?_⟩,?_⟩,?_⟩,?_⟩,?_⟩,?_⟩,?_⟩,?_⟩,?_⟩,?_⟩,?_⟩,?_⟩,?_⟩,?_⟩,?_⟩,?_⟩,?_⟩,?_⟩,?_⟩,?_⟩,?_⟩,?_⟩,?_⟩
 all_goals first | with_reducible exact jf1_AutomatonCheckReference | with_reducible exact jf2_AutomatonCheckReference | with_reducible exact jf3_AutomatonCheckReference | with_reducible exact jf4_AutomatonCheckReference | with_reducible exact jf5_AutomatonCheckReference | with_reducible exact jf6_AutomatonCheckReference | with_reducible exact jf7_AutomatonCheckReference | with_reducible exact jf8_AutomatonCheckReference | with_reducible exact jf9_AutomatonCheckReference | with_reducible exact jf10_AutomatonCheckReference | kernel_rfl
end Go.Proofs.YtifhejahbbnkiaaGreat
