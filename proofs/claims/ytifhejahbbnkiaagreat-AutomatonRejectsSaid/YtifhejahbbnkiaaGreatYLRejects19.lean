/-
  AutomatonRejects, called at whatever arguments, returns true. No condition.
-/
import Derived.Test.YtifhejahbbnkiaaGreatC16
import Derived.Test.YtifhejahbbnkiaaGreatC15
import Derived.Test.YtifhejahbbnkiaaGreatC14
namespace Go.Proofs.YtifhejahbbnkiaaGreat
open Go.ChangeShapes Go.WideShapes Go.ChangeAt Go.RowKit

set_option maxRecDepth 100000 in
theorem rejects_lifted (os : Os) (started : os.Started) (H : Type) (enc : TypeId × Value → H) :
    ReturnsInHanded {} Tryz.checked os 6 .any (Rows.automatonRejectsSpec.pre6 enc Tryz.prog Tryz.f6 Rows.automatonRejectsRow.domain false) (Rows.automatonRejectsSpec.post enc Tryz.prog Tryz.f6 false true false false) := by
  refine returnsInHanded_of_change_sized (C := Tryz.checked) own_ started (by kernel_rfl) Tryz.func6
    (ChangeSpec.witness6 (enc := enc) (C := Tryz.checked) false ⟨#[], #[.slice none 0 0, .int .i64 0, .int .i64 0, .int .i64 0, .int .i64 0, .int .i64 0, .int .i64 0], []⟩ 8 (by kernel_rfl) (by kernel_rfl) (by kernel_rfl) (by kernel_rfl)) ?_
  intro W base args ds gs before hval0 hW _ hsz0 _
  have hsz : (DataW.weightsEach Tryz.prog (Tryz.f6.params.toList ++ Rows.automatonRejectsSpec.plain.varTypes Tryz.prog) (ds ++ gs)).all (· ≤ reachBytes) = true := hsz0
  have hval : ∀ (j : Nat) t v, Tryz.f6.params[j]? = some t → args[j]? = some v → Value.okWide Tryz.prog W .any base t v := hval0
  have hW' := hW
  obtain ⟨p, q, hA0, hV, rfl, hfz, hnd⟩ := hW
  have hA : DataW.TrodAll enc Tryz.prog W 0 (fun _ => true) true Tryz.f6.params.toList args.toList ds p := hA0
  rw [Tryz.params6] at hA hval hsz
  obtain ⟨v0, _, d0, _, p0, _, e0, rfl, rfl, h0, hA⟩ := trodAll_cons hA
  obtain ⟨v1, _, d1, _, p1, _, e1, rfl, rfl, h1, hA⟩ := trodAll_cons hA
  obtain ⟨v2, _, d2, _, p2, _, e2, rfl, rfl, h2, hA⟩ := trodAll_cons hA
  obtain ⟨v3, _, d3, _, p3, _, e3, rfl, rfl, h3, hA⟩ := trodAll_cons hA
  obtain ⟨v4, _, d4, _, p4, _, e4, rfl, rfl, h4, hA⟩ := trodAll_cons hA
  obtain ⟨v5, _, d5, _, p5, _, e5, rfl, rfl, h5, hA⟩ := trodAll_cons hA
  obtain ⟨v6, _, d6, _, p6, _, e6, rfl, rfl, h6, hA⟩ := trodAll_cons hA
  obtain ⟨rfl, rfl, rfl⟩ := trodAll_nil hA
  have ea : args = #[v0, v1, v2, v3, v4, v5, v6] := by
    subst e6; subst e5; subst e4; subst e3; subst e2; subst e1
    exact Array.ext' (by simpa using e0)
  subst ea
  clear e0 e1 e2 e3 e4 e5 e6
  obtain ⟨rfl, rfl⟩ := trodVars_none hV
  obtain ⟨A0, c0, l0, rfl, hc0, hv0, hi0, hn0⟩ := open_intsV Tryz.underlying22 Tryz.underlying3 cells_int bytes_int (hval 0 22 v0 rfl rfl) h0 hsz (j := 0) rfl rfl
  obtain ⟨n1, rfl, hi1⟩ := open_i64 Tryz.underlying3 (hval 1 3 v1 rfl rfl) h1
  obtain ⟨n2, rfl, hi2⟩ := open_i64 Tryz.underlying3 (hval 2 3 v2 rfl rfl) h2
  obtain ⟨n3, rfl, hi3⟩ := open_i64 Tryz.underlying2 (hval 3 2 v3 rfl rfl) h3
  obtain ⟨n4, rfl, hi4⟩ := open_i64 Tryz.underlying2 (hval 4 2 v4 rfl rfl) h4
  obtain ⟨n5, rfl, hi5⟩ := open_i64 Tryz.underlying3 (hval 5 3 v5 rfl rfl) h5
  obtain ⟨n6, rfl, hi6⟩ := open_i64 Tryz.underlying3 (hval 6 3 v6 rfl rfl) h6
  refine (auRejects_c W _ A0 c0 l0 n1 n2 n3 n4 n5 n6 hv0 hc0 hi0 (by omega) hi1 hi2 hi3 hi4 hi5).mono fun e W' ⟨he, hu⟩ => ?_
  subst he
  exact ⟨_, rfl, law_post (tb := 4) hW' laidOut_ (by kernel_rfl) rfl (by kernel_rfl) Tryz.underlying4 rfl hu.toBelow⟩

theorem rejects_holds : Rows.AutomatonRejectsSaid :=
  OpenClaim.holds_of_wide 6 Tryz.f6 rfl rfl rfl rfl rfl rfl rfl ⟨rfl, rfl, rfl, rfl, rfl⟩ rfl rfl rfl rfl rfl (by kernel_rfl) Tryz.func6 closed_AutomatonRejects
    (of_decide_eq_true (by kernel_rfl)) (by unfold Func.isWrapper; first | (rw [if_pos (by decide +kernel)]; kernel_rfl) | (rw [if_neg (by decide +kernel)]; exact ⟨rfl, rfl⟩))
    (fun os started H enc _ => rejects_lifted os started H enc)
end Go.Proofs.YtifhejahbbnkiaaGreat
