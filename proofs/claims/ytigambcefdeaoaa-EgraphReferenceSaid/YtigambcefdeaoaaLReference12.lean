/-
  EgraphReference, called at whatever arguments, returns true. No condition.
-/
import Derived.Test.YtigambcefdeaoaaRefC
import Derived.Test.YtigambcefdeaoaaOpen
import Derived.Test.YtigambcefdeaoaaDeedA
namespace Go.Proofs.Ytigambcefdeaoaa
open Go.ChangeShapes Go.WideShapes Go.ChangeAt Go.RowKit

set_option maxRecDepth 100000 in
theorem reference_lifted (os : Os) (started : os.Started) (H : Type) (enc : TypeId × Value → H) :
    ReturnsInHanded {} Try.checked os 7 .any (Rows.egraphReferenceSpec.pre6 enc Try.prog Try.f7 Rows.egraphReferenceRow.domain false) (Rows.egraphReferenceSpec.post enc Try.prog Try.f7 false true false false) := by
  refine returnsInHanded_of_change_sized (C := Try.checked) own_ started (by kernel_rfl) Try.func7
    (ChangeSpec.witness6 (enc := enc) (C := Try.checked) false ⟨#[], #[.slice none 0 0, .int .i64 0, .int .i64 0, .slice none 0 0], []⟩ 8 (by kernel_rfl) (by kernel_rfl) (by kernel_rfl) (by kernel_rfl)) ?_
  intro W base args ds gs before hval0 hW _ hsz0 _
  have hsz : (DataW.weightsEach Try.prog (Try.f7.params.toList ++ Rows.egraphReferenceSpec.plain.varTypes Try.prog) (ds ++ gs)).all (· ≤ reachBytes) = true := hsz0
  have hval : ∀ (j : Nat) t v, Try.f7.params[j]? = some t → args[j]? = some v → Value.okWide Try.prog W .any base t v := hval0
  have hW' := hW
  obtain ⟨p, q, hA0, hV, rfl, hfz, hnd⟩ := hW
  have hA : DataW.TrodAll enc Try.prog W 0 (fun _ => true) true Try.f7.params.toList args.toList ds p := hA0
  rw [Try.params7] at hA hval hsz
  obtain ⟨v0, _, d0, _, p0, _, e0, rfl, rfl, h0, hA⟩ := trodAll_cons hA
  obtain ⟨v1, _, d1, _, p1, _, e1, rfl, rfl, h1, hA⟩ := trodAll_cons hA
  obtain ⟨v2, _, d2, _, p2, _, e2, rfl, rfl, h2, hA⟩ := trodAll_cons hA
  obtain ⟨v3, _, d3, _, p3, _, e3, rfl, rfl, h3, hA⟩ := trodAll_cons hA
  obtain ⟨rfl, rfl, rfl⟩ := trodAll_nil hA
  have ea : args = #[v0, v1, v2, v3] := by
    subst e3; subst e2; subst e1
    exact Array.ext' (by simpa using e0)
  subst ea
  clear e0 e1 e2 e3
  obtain ⟨rfl, rfl⟩ := trodVars_none hV
  obtain ⟨A0, c0, l0, rfl, hc0, hv0, hi0, hn0⟩ := open_intsV Try.underlying22 Try.underlying3 cells_int bytes_int (hval 0 22 v0 rfl rfl) h0 hsz (j := 0) rfl rfl
  obtain ⟨n1, rfl, hi1⟩ := open_i64 Try.underlying3 (hval 1 3 v1 rfl rfl) h1
  obtain ⟨n2, rfl, hi2⟩ := open_i64 Try.underlying3 (hval 2 3 v2 rfl rfl) h2
  obtain ⟨A3, c3, l3, rfl, hc3, hv3, hi3, hn3⟩ := open_deedsV (hval 3 43 v3 rfl rfl) h3 (Wt.of hsz (j := 3) rfl rfl)
  refine (eRef_c W (fun _ => True) A0 A3 c0 c3 l0 n1 n2 l3 hv0 hv3 hi3 hi0 hi1 hi2 (by omega) (by omega)).mono fun e W' ⟨he, hu⟩ => ?_
  subst he
  exact ⟨_, rfl, law_post (tb := 4) hW' laidOut_ (by kernel_rfl) rfl (by kernel_rfl) Try.underlying4 rfl hu.toBelow⟩

theorem reference_holds : Rows.EgraphReferenceSaid :=
  OpenClaim.holds_of_wide 7 Try.f7 rfl rfl rfl rfl rfl rfl rfl ⟨rfl, rfl, rfl, rfl, rfl⟩ rfl rfl rfl rfl rfl (by kernel_rfl) Try.func7 (by kernel_rfl)
    (of_decide_eq_true (by kernel_rfl)) (by unfold Func.isWrapper; first | (rw [if_pos (by decide +kernel)]; kernel_rfl) | (rw [if_neg (by decide +kernel)]; exact ⟨rfl, rfl⟩))
    (fun os started H enc _ => reference_lifted os started H enc)
end Go.Proofs.Ytigambcefdeaoaa
