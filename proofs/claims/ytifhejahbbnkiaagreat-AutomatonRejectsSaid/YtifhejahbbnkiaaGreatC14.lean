/-
  Lemmas and walks that the claim rests on, part 14 (packed by a program).
-/
import Derived.Test.YtifhejahbbnkiaaGreatRows
import Derived.Test.YtifhejahbbnkiaaGreatChecked
import Derived.JoinedOf
import Derived.WalkKit
namespace Go.Proofs.YtifhejahbbnkiaaGreat
open Go.ChangeShapes Go.WideShapes Go.RowKit
theorem jf1_AutomatonRejects:laidOutB Tryz.prog=true:=by kernel_rfl
theorem jf2_AutomatonRejects:mapsRowed Tryz.prog=true:=by kernel_rfl
theorem jf3_AutomatonRejects:Tryz.prog.stopsHeard=true:=by kernel_rfl
theorem jf4_AutomatonRejects:(Rows.automatonRejectsRow.inPlace==Tryz.prog.inPlace 6)=true:=by kernel_rfl
theorem jf5_AutomatonRejects:(Rows.automatonRejectsRow.unfollowed==Tryz.prog.unfollowed 6)=true:=by kernel_rfl
theorem jf6_AutomatonRejects:(Rows.automatonRejectsRow.recurses==Tryz.prog.recurses 6)=true:=by kernel_rfl
theorem jf7_AutomatonRejects:(Rows.automatonRejectsRow.named==Tryz.prog.varsNamed 6)=true:=by kernel_rfl
theorem jf8_AutomatonRejects:Tryz.prog.mayEnter=true:=by kernel_rfl
theorem jf9_AutomatonRejects:(Rows.automatonRejectsRow.lifted==Tryz.prog.liftsFinal)=true:=by kernel_rfl
theorem jf10_AutomatonRejects:(Tryz.prog.make==some Rows.automatonRejectsRow.make)=true:=by kernel_rfl
theorem closed_AutomatonRejects:joinedFacts Tryz.prog 6 Tryz.f6 Rows.automatonRejectsSpec Rows.automatonRejectsRow=true:=by
 unfold joinedFacts;simp only [Bool.and_eq_true];refine ⟨⟨⟨⟨⟨⟨⟨⟨⟨⟨⟨⟨⟨⟨⟨⟨⟨⟨⟨⟨⟨⟨⟨⟨⟨⟨⟨⟨⟨⟨⟨?_,?_⟩,?_⟩,?_⟩,?_⟩,?_⟩,?_⟩,?_⟩,?_⟩,?_⟩,?_⟩,?_⟩,?_⟩,?_⟩,?_⟩,?_⟩,?_⟩,?_⟩,?_⟩,?_⟩,?_⟩,?_⟩,?_⟩,?_⟩,?_⟩,?_⟩,?_⟩,?_⟩,?_⟩,?_⟩,?_⟩,?_⟩
 all_goals first | with_reducible exact jf1_AutomatonRejects | with_reducible exact jf2_AutomatonRejects | with_reducible exact jf3_AutomatonRejects | with_reducible exact jf4_AutomatonRejects | with_reducible exact jf5_AutomatonRejects | with_reducible exact jf6_AutomatonRejects | with_reducible exact jf7_AutomatonRejects | with_reducible exact jf8_AutomatonRejects | with_reducible exact jf9_AutomatonRejects | with_reducible exact jf10_AutomatonRejects | kernel_rfl
end Go.Proofs.YtifhejahbbnkiaaGreat
