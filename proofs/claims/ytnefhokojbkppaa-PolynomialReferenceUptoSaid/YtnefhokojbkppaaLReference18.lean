/-
  PolynomialReference, called at whatever arguments, returns true. Condition: what comes in is of bulk at most 1048576 (the second form).
-/
import Derived.Deep.CondSized
import Derived.JoinedCond
import Derived.Test.YtnefhokojbkppaaPRefC
import Derived.Test.YtnefhokojbkppaaLaw
import Derived.Test.YtnefhokojbkppaaOpen
namespace Go.Proofs.Ytnefhokojbkppaa
open Go.ChangeShapes Go.WideShapes Go.ChangeAt Go.RowKit

set_option maxRecDepth 100000 in
theorem reference_lifted (os : Os) (started : os.Started) (H : Type) (enc : TypeId × Value → H) (F : Stop.Interp) :
    ReturnsInHanded {} Try.checked os 8 .any ((Rows.OpenSpec.upto Rows.polynomialReferenceSpec).pre6 enc Try.prog Try.f8 Rows.polynomialReferenceUptoRow.domain false) (((Rows.OpenSpec.upto Rows.polynomialReferenceSpec).at F).post enc Try.prog Try.f8 false true false false) := by
  refine returnsInHanded_of_cond_sized (C := Try.checked) (s := Rows.OpenSpec.upto Rows.polynomialReferenceSpec) (k := Rows.uptoSmall) rfl own_ started (by kernel_rfl) Try.func8
    (OpenSpec.witness (enc := enc) (C := Try.checked) (s := Rows.OpenSpec.upto Rows.polynomialReferenceSpec) (k := Rows.uptoSmall) rfl false ⟨#[], #[.agg #[.int .i64 0, .int .i64 0, .int .i64 0, .int .i64 0, .slice none 0 0], .slice none 0 0, .slice none 0 0, .int .i64 0, .agg #[.string ⟨#[]⟩, .int .i64 0, .int .i64 0, .int .i64 0, .int .i64 0, .slice none 0 0, .int .i64 0, .int .i64 0, .int .i64 0, .int .i64 0, .slice none 0 0, .slice none 0 0, .int .i64 0, .int .i64 0]], []⟩ 8 (by kernel_rfl) (by kernel_rfl) (by kernel_rfl)
      (x := ([.agg [.lit (.int .i64 0), .lit (.int .i64 0), .lit (.int .i64 0), .lit (.int .i64 0), .nil], .nil, .nil, .lit (.int .i64 0), .agg [.lit (.string []), .agg [.lit (.int .i64 0), .lit (.int .i64 0), .lit (.int .i64 0), .lit (.int .i64 0), .nil], .agg [.lit (.int .i64 0), .lit (.int .i64 0), .lit (.int .i64 0), .lit (.int .i64 0), .nil], .nil, .lit (.int .i64 0), .lit (.int .i64 0)]], [], [])) (by kernel_rfl) rfl (by kernel_rfl)) ?_
  intro W base args ds gs before hval0 hW _ hk hsz0 _
  have hsz : (DataW.weightsEach Try.prog (Try.f8.params.toList ++ Rows.polynomialReferenceSpec.plain.varTypes Try.prog) (ds ++ gs)).all (· ≤ reachBytes) = true := hsz0
  have hval : ∀ (j : Nat) t v, Try.f8.params[j]? = some t → args[j]? = some v → Value.okWide Try.prog W .any base t v := hval0
  have hW' := hW
  obtain ⟨p, q, hA0, hV, rfl, hfz, hnd⟩ := hW
  have hA : DataW.TrodAll enc Try.prog W 0 (fun _ => true) true Try.f8.params.toList args.toList ds p := hA0
  rw [Try.params8] at hA hval hsz
  obtain ⟨v0, _, d0, _, p0, _, e0, rfl, rfl, h0, hA⟩ := trodAll_cons hA
  obtain ⟨v1, _, d1, _, p1, _, e1, rfl, rfl, h1, hA⟩ := trodAll_cons hA
  obtain ⟨v2, _, d2, _, p2, _, e2, rfl, rfl, h2, hA⟩ := trodAll_cons hA
  obtain ⟨v3, _, d3, _, p3, _, e3, rfl, rfl, h3, hA⟩ := trodAll_cons hA
  obtain ⟨v4, _, d4, _, p4, _, e4, rfl, rfl, h4, hA⟩ := trodAll_cons hA
  obtain ⟨rfl, rfl, rfl⟩ := trodAll_nil hA
  have ea : args = #[v0, v1, v2, v3, v4] := by
    subst e4; subst e3; subst e2; subst e1
    exact Array.ext' (by simpa using e0)
  subst ea
  clear e0 e1 e2 e3 e4
  obtain ⟨rfl, rfl⟩ := trodVars_none hV
  have hb : Rows.uptoBulkAll ([d0, d1, d2, d3, d4] ++ []) ≤ 1048576 := of_decide_eq_true hk
  simp only [List.cons_append, List.nil_append, Rows.uptoBulkAll] at hb
  obtain ⟨P0, A0, c0, rfl, hv0, hs0⟩ := open_ptV (hval 0 24 v0 rfl rfl) h0
  obtain ⟨A1, c1, l1, rfl, hc1, hv1, hi1, hn1⟩ := open_intsV Try.underlying29 Try.underlying3 cells_int bytes_int (hval 1 29 v1 rfl rfl) h1 hsz (j := 1) rfl rfl
  obtain ⟨A2, c2, l2, rfl, hc2, hv2, hi2, hn2⟩ := open_intsV Try.underlying29 Try.underlying3 cells_int bytes_int (hval 2 29 v2 rfl rfl) h2 hsz (j := 2) rfl rfl
  obtain ⟨n3, rfl, hi3⟩ := open_i64 Try.underlying3 (hval 3 3 v3 rfl rfl) h3
  obtain ⟨R4, a4, rfl, hv4, hs4⟩ := open_rlV (hval 4 51 v4 rfl rfl) h4
  refine (poReference_c W _ _ P0 A0 c0 hv0 (by omega) A1 A2 c1 c2 l1 l2 n3 hv1 hc1 hi1 (by omega) hv2 hc2 hi2 (by omega) R4 a4 hv4 ⟨by omega, by omega, by omega, by omega⟩).mono fun e W' ⟨he, hu⟩ => ?_
  subst he
  exact ⟨_, rfl, law_post (tb := 4) hW' laidOut_ (by kernel_rfl) rfl (by kernel_rfl) Try.underlying4 rfl hu.toBelow⟩

theorem reference_holds : Rows.PolynomialReferenceUptoSaid :=
  OpenClaim.holds_of_cond 8 Try.f8 rfl rfl rfl rfl rfl rfl rfl ⟨rfl, rfl, rfl, rfl, rfl⟩ rfl rfl rfl rfl rfl (by kernel_rfl) Try.func8 (by kernel_rfl)
    (of_decide_eq_true (by kernel_rfl)) (by unfold Func.isWrapper; first | (rw [if_pos (by decide +kernel)]; kernel_rfl) | (rw [if_neg (by decide +kernel)]; exact ⟨rfl, rfl⟩))
    (fun os started H enc _ F => reference_lifted os started H enc F)
end Go.Proofs.Ytnefhokojbkppaa
