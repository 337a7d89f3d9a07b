/-
  CongruenceReference, called at whatever nodes, pairs, lists of integers and two integers, returns true. No condition.
-/
import Derived.Test.YtlehiklgbladoaaLRef
import Derived.Test.YtlehiklgbladoaaOpenN
namespace Go.Proofs.Ytlehiklgbladoaa
open Go.ChangeShapes Go.WideShapes Go.ChangeAt Go.RowKit

set_option maxRecDepth 100000 in
theorem reference_lifted (os : Os) (started : os.Started) (H : Type) (enc : TypeId × Value → H) :
    ReturnsInHanded {} Try.checked os 4 .any (Rows.congruenceReferenceSpec.pre6 enc Try.prog Try.f4 Rows.congruenceReferenceRow.domain false) (Rows.congruenceReferenceSpec.post enc Try.prog Try.f4 false true false false) := by
  refine returnsInHanded_of_change_sized (C := Try.checked) own_ started (by kernel_rfl) Try.func4
    (ChangeSpec.witness6 (enc := enc) (C := Try.checked) false ⟨#[], #[.slice none 0 0, .slice none 0 0, .slice none 0 0, .slice none 0 0, .int .i64 0, .int .i64 0], []⟩ 8 (by kernel_rfl) (by kernel_rfl) (by kernel_rfl) (by kernel_rfl)) ?_
  intro W base args ds gs before hval0 hW _ hsz0 _
  have hsz : (DataW.weightsEach Try.prog (Try.f4.params.toList ++ Rows.congruenceReferenceSpec.plain.varTypes Try.prog) (ds ++ gs)).all (· ≤ reachBytes) = true := hsz0
  have hval : ∀ (j : Nat) t v, Try.f4.params[j]? = some t → args[j]? = some v → Value.okWide Try.prog W .any base t v := hval0
  have hW' := hW
  obtain ⟨p, q, hA0, hV, rfl, hfz, hnd⟩ := hW
  have hA : DataW.TrodAll enc Try.prog W 0 (fun _ => true) true Try.f4.params.toList args.toList ds p := hA0
  rw [Try.params4] at hA hval hsz
  obtain ⟨v0, _, d0, _, p0, _, e0, rfl, rfl, h0, hA⟩ := trodAll_cons hA
  obtain ⟨v1, _, d1, _, p1, _, e1, rfl, rfl, h1, hA⟩ := trodAll_cons hA
  obtain ⟨v2, _, d2, _, p2, _, e2, rfl, rfl, h2, hA⟩ := trodAll_cons hA
  obtain ⟨v3, _, d3, _, p3, _, e3, rfl, rfl, h3, hA⟩ := trodAll_cons hA
  obtain ⟨v4, _, d4, _, p4, _, e4, rfl, rfl, h4, hA⟩ := trodAll_cons hA
  obtain ⟨v5, _, d5, _, p5, _, e5, rfl, rfl, h5, hA⟩ := trodAll_cons hA
  obtain ⟨rfl, rfl, rfl⟩ := trodAll_nil hA
  have ea : args = #[v0, v1, v2, v3, v4, v5] := by
    subst e5; subst e4; subst e3; subst e2; subst e1
    exact Array.ext' (by simpa using e0)
  subst ea
  clear e0 e1 e2 e3 e4 e5
  obtain ⟨rfl, rfl⟩ := trodVars_none hV
  obtain ⟨AX, cX, X, rfl, hxc, hX, hXo, _, hxm⟩ := open_nodesV (hval 0 25 v0 rfl rfl) h0 (Wt.of hsz (j := 0) rfl rfl)
  obtain ⟨AS, cS, ss, rfl, _, hS, hsl⟩ := open_pairsV (hval 1 29 v1 rfl rfl) h1 (Wt.of hsz (j := 1) rfl rfl)
  obtain ⟨A2, c2, l, rfl, _, hl, hli, hll⟩ := open_intsV Try.underlying22 Try.underlying3 cells_int bytes_int (hval 2 22 v2 rfl rfl) h2 hsz (j := 2) rfl rfl
  obtain ⟨A3, c3, m, rfl, _, hm, hmi, hml⟩ := open_intsV Try.underlying22 Try.underlying3 cells_int bytes_int (hval 3 22 v3 rfl rfl) h3 hsz (j := 3) rfl rfl
  obtain ⟨how, rfl, hh⟩ := open_i64 Try.underlying3 (hval 4 3 v4 rfl rfl) h4
  obtain ⟨at_, rfl, ha⟩ := open_i64 Try.underlying3 (hval 5 3 v5 rfl rfl) h5
  refine (cRef_c W (fun _ => True) AX AS A2 A3 cX cS c2 c3 X ss l m how at_ hX hxc hXo hS (by omega) hl hm hli (by omega) (by omega) hh ha (by omega)).mono fun e W' ⟨he, hu⟩ => ?_
  subst he
  exact ⟨_, rfl, law_post (tb := 4) hW' laidOut_ (by kernel_rfl) rfl (by kernel_rfl) Try.underlying4 rfl hu.toBelow⟩

theorem reference_holds : Rows.CongruenceReferenceSaid :=
  OpenClaim.holds_of_wide 4 Try.f4 rfl rfl rfl rfl rfl rfl rfl ⟨rfl, rfl, rfl, rfl, rfl⟩ rfl rfl rfl rfl rfl (by kernel_rfl) Try.func4 (by kernel_rfl)
    (of_decide_eq_true (by kernel_rfl)) (by unfold Func.isWrapper; first | (rw [if_pos (by decide +kernel)]; kernel_rfl) | (rw [if_neg (by decide +kernel)]; exact ⟨rfl, rfl⟩))
    (fun os started H enc _ => reference_lifted os started H enc)
end Go.Proofs.Ytlehiklgbladoaa
