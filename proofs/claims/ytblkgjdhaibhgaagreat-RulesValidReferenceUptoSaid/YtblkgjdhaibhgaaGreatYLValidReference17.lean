/-
  RulesValidReference, called at whatever arguments, returns true. Condition: what comes in is of bulk at most 1048576 (the second form).
-/
import Derived.Deep.CondSized
import Derived.JoinedCond
import Derived.Test.YtblkgjdhaibhgaaGreatV13
import Derived.Test.YtblkgjdhaibhgaaGreatV14
import Derived.Test.YtblkgjdhaibhgaaGreatV10
namespace Go.Proofs.YtblkgjdhaibhgaaGreat
open Go.ChangeShapes Go.WideShapes Go.ChangeAt Go.RowKit

set_option maxRecDepth 100000 in
theorem validreference_lifted (os : Os) (started : os.Started) (H : Type) (enc : TypeId × Value → H) (F : Stop.Interp) :
    ReturnsInHanded {} Tryz.checked os 5 .any ((Rows.OpenSpec.upto Rows.rulesValidReferenceSpec).pre6 enc Tryz.prog Tryz.f5 Rows.rulesValidReferenceUptoRow.domain false) (((Rows.OpenSpec.upto Rows.rulesValidReferenceSpec).at F).post enc Tryz.prog Tryz.f5 false true false false) := by
  refine returnsInHanded_of_cond_sized (C := Tryz.checked) (s := Rows.OpenSpec.upto Rows.rulesValidReferenceSpec) (k := Rows.uptoSmall) rfl own_ started (by kernel_rfl) Tryz.func5
    (OpenSpec.witness (enc := enc) (C := Tryz.checked) (s := Rows.OpenSpec.upto Rows.rulesValidReferenceSpec) (k := Rows.uptoSmall) rfl false ⟨#[], #[.slice none 0 0, .slice none 0 0, .slice none 0 0, .int .i64 0, .int .i64 0, .string ⟨#[]⟩], []⟩ 8 (by kernel_rfl) (by kernel_rfl) (by kernel_rfl)
      (x := ([.nil, .nil, .nil, .lit (.int .i64 0), .lit (.int .i64 0), .lit (.string [])], [], [])) (by kernel_rfl) rfl (by kernel_rfl)) ?_
  intro W base args ds gs before hval0 hW _ hk hsz0 _
  have hsz : (DataW.weightsEach Tryz.prog (Tryz.f5.params.toList ++ Rows.rulesValidReferenceSpec.plain.varTypes Tryz.prog) (ds ++ gs)).all (· ≤ reachBytes) = true := hsz0
  have hval : ∀ (j : Nat) t v, Tryz.f5.params[j]? = some t → args[j]? = some v → Value.okWide Tryz.prog W .any base t v := hval0
  have hW' := hW
  obtain ⟨p, q, hA0, hV, rfl, hfz, hnd⟩ := hW
  have hA : DataW.TrodAll enc Tryz.prog W 0 (fun _ => true) true Tryz.f5.params.toList args.toList ds p := hA0
  rw [Tryz.params5] at hA hval hsz
  obtain ⟨v0, _, d0, _, p0, _, e0, rfl, rfl, h0, hA⟩ := trodAll_cons hA
  obtain ⟨v1, _, d1, _, p1, _, e1, rfl, rfl, h1, hA⟩ := trodAll_cons hA
  obtain ⟨v2, _, d2, _, p2, _, e2, rfl, rfl, h2, hA⟩ := trodAll_cons hA
  obtain ⟨v3, _, d3, _, p3, _, e3, rfl, rfl, h3, hA⟩ := trodAll_cons hA
  obtain ⟨v4, _, d4, _, p4, _, e4, rfl, rfl, h4, hA⟩ := trodAll_cons hA
  obtain ⟨v5, _, d5, _, p5, _, e5, rfl, rfl, h5, hA⟩ := trodAll_cons hA
  obtain ⟨rfl, rfl, rfl⟩ := trodAll_nil hA
  have ea : args = #[v0, v1, v2, v3, v4, v5] := by
    subst e5; subst e4; subst e3; subst e2; subst e1
    exact Array.ext' (by simpa using e0)
  subst ea
  clear e0 e1 e2 e3 e4 e5
  obtain ⟨rfl, rfl⟩ := trodVars_none hV
  have hb : Rows.uptoBulkAll ([d0, d1, d2, d3, d4, d5] ++ []) ≤ 1048576 := of_decide_eq_true hk
  simp only [List.cons_append, List.nil_append, Rows.uptoBulkAll] at hb
  obtain ⟨A0, c0, L0, rfl, hc0, hv0, hm0, hr0⟩ := open_rlsV (hval 0 28 v0 rfl rfl) h0
  obtain ⟨A1, c1, l1, rfl, hc1, hv1, hi1, hn1⟩ := open_intsV Tryz.underlying22 Tryz.underlying3 cells_int bytes_int (hval 1 22 v1 rfl rfl) h1 hsz (j := 1) rfl rfl
  obtain ⟨A2, c2, l2, rfl, hc2, hv2, hi2, hn2⟩ := open_intsV Tryz.underlying22 Tryz.underlying3 cells_int bytes_int (hval 2 22 v2 rfl rfl) h2 hsz (j := 2) rfl rfl
  obtain ⟨n3, rfl, hi3⟩ := open_i64 Tryz.underlying3 (hval 3 3 v3 rfl rfl) h3
  obtain ⟨n4, rfl, hi4⟩ := open_i64 Tryz.underlying3 (hval 4 3 v4 rfl rfl) h4
  obtain ⟨s5, rfl, _, _, hn5⟩ := Go.ChangeMaps.open_string Tryz.underlying9 (hval 5 9 v5 rfl rfl) h5
  refine (RuValidReference_c W _ _ _ A0 A1 A2 c0 c1 c2 L0 l1 l2 n3 n4 s5 hv0 hc0 (fun r hr => ⟨⟨by have := (hr0 r hr).2; omega, by have := (hr0 r hr).2; omega, by have := (hr0 r hr).2; omega, by have := (hr0 r hr).2; omega⟩, (hr0 r hr).1⟩) (by omega) hv1 hc1 hi1 (by omega) hv2 hc2 hi2 (by omega)).mono fun e W' ⟨he, hu⟩ => ?_
  subst he
  exact ⟨_, rfl, law_post (tb := 4) hW' laidOut_ (by kernel_rfl) rfl (by kernel_rfl) Tryz.underlying4 rfl hu.toBelow⟩

theorem validreference_holds : Rows.RulesValidReferenceUptoSaid :=
  OpenClaim.holds_of_cond 5 Tryz.f5 rfl rfl rfl rfl rfl rfl rfl ⟨rfl, rfl, rfl, rfl, rfl⟩ rfl rfl rfl rfl rfl (by kernel_rfl) Tryz.func5 (by kernel_rfl)
    (of_decide_eq_true (by kernel_rfl)) (by unfold Func.isWrapper; first | (rw [if_pos (by decide +kernel)]; kernel_rfl) | (rw [if_neg (by decide +kernel)]; exact ⟨rfl, rfl⟩))
    (fun os started H enc _ F => validreference_lifted os started H enc F)
end Go.Proofs.YtblkgjdhaibhgaaGreat
