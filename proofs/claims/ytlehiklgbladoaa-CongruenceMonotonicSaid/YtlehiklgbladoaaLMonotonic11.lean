/-
  CongruenceMonotonic, called at whatever lists of integers and whatever integer, returns true. No condition.
-/
import Derived.Test.YtlehiklgbladoaaLMono
import Derived.Test.YtlehiklgbladoaaOpen
namespace Go.Proofs.Ytlehiklgbladoaa
open Go.ChangeShapes Go.WideShapes Go.ChangeAt Go.RowKit

set_option maxRecDepth 100000 in
theorem monotonic_lifted (os : Os) (started : os.Started) (H : Type) (enc : TypeId × Value → H) :
    ReturnsInHanded {} Try.checked os 6 .any (Rows.congruenceMonotonicSpec.pre6 enc Try.prog Try.f6 Rows.congruenceMonotonicRow.domain false) (Rows.congruenceMonotonicSpec.post enc Try.prog Try.f6 false true false false) := by
  refine returnsInHanded_of_change_sized (C := Try.checked) own_ started (by kernel_rfl) Try.func6
    (ChangeSpec.witness6 (enc := enc) (C := Try.checked) false ⟨#[], #[.slice none 0 0, .slice none 0 0, .int .i64 0], []⟩ 8 (by kernel_rfl) (by kernel_rfl) (by kernel_rfl) (by kernel_rfl)) ?_
  intro W base args ds gs before hval0 hW _ hsz0 _
  have hsz : (DataW.weightsEach Try.prog (Try.f6.params.toList ++ Rows.congruenceMonotonicSpec.plain.varTypes Try.prog) (ds ++ gs)).all (· ≤ reachBytes) = true := hsz0
  have hval : ∀ (j : Nat) t v, Try.f6.params[j]? = some t → args[j]? = some v → Value.okWide Try.prog W .any base t v := hval0
  have hW' := hW
  obtain ⟨p, q, hA0, hV, rfl, hfz, hnd⟩ := hW
  have hA : DataW.TrodAll enc Try.prog W 0 (fun _ => true) true Try.f6.params.toList args.toList ds p := hA0
  rw [Try.params6] at hA hval hsz
  obtain ⟨v0, v1, v2, d0, d1, d2, p0, p1, p2, rfl, rfl, rfl, h0, h1, h2⟩ := trodAll_three hA
  obtain ⟨rfl, rfl⟩ := trodVars_none hV
  obtain ⟨n, rfl, hn⟩ := open_i64 Try.underlying3 (hval 2 3 v2 rfl rfl) h2
  obtain ⟨A0, c0, l, rfl, _, hl, hli, hll⟩ := open_intsV Try.underlying22 Try.underlying3 cells_int bytes_int (hval 0 22 v0 rfl rfl) h0 hsz (j := 0) rfl rfl
  obtain ⟨A1, c1, m, rfl, _, hm, hmi, hml⟩ := open_intsV Try.underlying22 Try.underlying3 cells_int bytes_int (hval 1 22 v1 rfl rfl) h1 hsz (j := 1) rfl rfl
  refine (cMono_c W (fun _ => True) A0 A1 c0 c1 l m n hl hm hli (by omega) (by omega)).mono fun e W' ⟨he, hu⟩ => ?_
  subst he
  exact ⟨_, rfl, law_post (tb := 4) hW' laidOut_ (by kernel_rfl) rfl (by kernel_rfl) Try.underlying4 rfl hu.toBelow⟩

theorem monotonic_holds : Rows.CongruenceMonotonicSaid :=
  OpenClaim.holds_of_wide 6 Try.f6 rfl rfl rfl rfl rfl rfl rfl ⟨rfl, rfl, rfl, rfl, rfl⟩ rfl rfl rfl rfl rfl (by kernel_rfl) Try.func6 (by kernel_rfl)
    (of_decide_eq_true (by kernel_rfl)) (by unfold Func.isWrapper; first | (rw [if_pos (by decide +kernel)]; kernel_rfl) | (rw [if_neg (by decide +kernel)]; exact ⟨rfl, rfl⟩))
    (fun os started H enc _ => monotonic_lifted os started H enc)
end Go.Proofs.Ytlehiklgbladoaa
