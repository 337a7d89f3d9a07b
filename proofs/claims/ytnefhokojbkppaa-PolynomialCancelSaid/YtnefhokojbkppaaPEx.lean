/-
  PolynomialExamples of chapter 18 returns true.
-/
import Derived.Test.YtnefhokojbkppaaPNz
import Derived.Test.YtnefhokojbkppaaSPoly
import Derived.Test.YtnefhokojbkppaaPtM
import Derived.Test.YtnefhokojbkppaaLaw
namespace Go.Proofs.Ytnefhokojbkppaa
open Go.RowKit

def exP : Pt := .mk 0 6 0 0 [.mk 0 4 0 0 [.mk 1 0 0 0 [], .mk 0 1 1 0 []], .mk 0 5 0 0 [.mk 1 0 0 0 [], .mk 0 1 1 0 []]]
def exR : PL := [([0], 18446744073709551615), ([2], 1)]
theorem ex_norm : normF exP 1 = some [([2], 1), ([1], -1), ([1], 1), ([0], -1)] := by decide +kernel
theorem exR_nf : NF 1 exR := ⟨by simp only [exR, List.pairwise_cons]; refine ⟨?_, by simp, by simp⟩; intro a h; simp at h; subst h; decide, by simp [exR]⟩
theorem exR_eqv : Eqv exR [([2], 1), ([1], -1), ([1], 1), ([0], -1)] := by
  intro x
  simp only [coef, exR, List.map_cons, List.map_nil, lsum]
  by_cases h0 : [0] = x
  · subst h0; decide +kernel
  · by_cases h1 : [1] = x
    · subst h1; decide +kernel
    · by_cases h2 : [2] = x
      · subst h2; decide +kernel
      · simp [h0, h1, h2]
theorem mns_len (r : PL) : (mns r).length = r.length := by simp [mns]

set_option maxRecDepth 100000 in
set_option maxHeartbeats 4000000 in
theorem poExamples_c (w : World) : Calls Try.prog 3 #[] w fun e w' => e = .returned (.bool true) ∧ Upd Non w w' := by
  go_enter Try.func3, Try.ntmps3
  go_wp2_with fail
  obtain ⟨W, HW⟩ := nm (((((w.alloc (Obj.cells #[Value.int IntKind.i64 0, Value.int IntKind.i64 1, Value.int IntKind.i64 1, Value.int IntKind.i64 0, Value.slice none 0 0] 24)).alloc
      (Obj.cells #[Value.int IntKind.i64 1, Value.int IntKind.i64 0, Value.int IntKind.i64 0, Value.int IntKind.i64 0, Value.slice none 0 0, Value.int IntKind.i64 0, Value.int IntKind.i64 1, Value.int IntKind.i64 1, Value.int IntKind.i64 0, Value.slice none 0 0] 24)).alloc
      (Obj.cells #[Value.int IntKind.i64 1, Value.int IntKind.i64 0, Value.int IntKind.i64 0, Value.int IntKind.i64 0, Value.slice none 0 0, Value.int IntKind.i64 0, Value.int IntKind.i64 1, Value.int IntKind.i64 1, Value.int IntKind.i64 0, Value.slice none 0 0] 24)).alloc
      (Obj.cells #[Value.int IntKind.i64 0, Value.int IntKind.i64 4, Value.int IntKind.i64 0, Value.int IntKind.i64 0, Value.slice (some { block := w.heap.size + 1, off := 0 }) 2 2, Value.int IntKind.i64 0, Value.int IntKind.i64 5, Value.int IntKind.i64 0, Value.int IntKind.i64 0, Value.slice (some { block := w.heap.size + 1 + 1, off := 0 }) 2 2] 24)).alloc
      (Obj.cells #[Value.int IntKind.i64 0, Value.int IntKind.i64 6, Value.int IntKind.i64 0, Value.int IntKind.i64 0, Value.slice (some { block := w.heap.size + 1 + 1 + 1, off := 0 }) 2 2] 24))
  have hK : PtK W (fun _ => True) exP (some ⟨w.heap.size + 1 + 1 + 1, 0, none⟩) 2 := by
    have b1 : Blk W (w.heap.size + 1) 24 #[Value.int IntKind.i64 1, Value.int IntKind.i64 0, Value.int IntKind.i64 0, Value.int IntKind.i64 0, Value.slice none 0 0, Value.int IntKind.i64 0, Value.int IntKind.i64 1, Value.int IntKind.i64 1, Value.int IntKind.i64 0, Value.slice none 0 0] := by rw [← HW.out]; exact (((Blk.new' (by simp)).alloc _).alloc _).alloc _
    have b2 : Blk W (w.heap.size + 1 + 1) 24 #[Value.int IntKind.i64 1, Value.int IntKind.i64 0, Value.int IntKind.i64 0, Value.int IntKind.i64 0, Value.slice none 0 0, Value.int IntKind.i64 0, Value.int IntKind.i64 1, Value.int IntKind.i64 1, Value.int IntKind.i64 0, Value.slice none 0 0] := by rw [← HW.out]; exact ((Blk.new' (by simp)).alloc _).alloc _
    have b3 : Blk W (w.heap.size + 1 + 1 + 1) 24 #[Value.int IntKind.i64 0, Value.int IntKind.i64 4, Value.int IntKind.i64 0, Value.int IntKind.i64 0, Value.slice (some { block := w.heap.size + 1, off := 0 }) 2 2, Value.int IntKind.i64 0, Value.int IntKind.i64 5, Value.int IntKind.i64 0, Value.int IntKind.i64 0, Value.slice (some { block := w.heap.size + 1 + 1, off := 0 }) 2 2] := by rw [← HW.out]; exact (Blk.new' (by simp)).alloc _
    exact PtK.two (kc := 2) (KA0 := some ⟨w.heap.size + 1, 0, none⟩) (kc0 := 2) (KA1 := some ⟨w.heap.size + 1 + 1, 0, none⟩) (kc1 := 2) (k0 := .mk 0 4 0 0 [.mk 1 0 0 0 [], .mk 0 1 1 0 []]) (k1 := .mk 0 5 0 0 [.mk 1 0 0 0 [], .mk 0 1 1 0 []]) 0 6 0 0 b3
      (PtK.two (kc := 2) (k0 := .mk 1 0 0 0 []) (k1 := .mk 0 1 1 0 []) 0 4 0 0 b1 (PtK.leaf (kc := 0)) (PtK.leaf (kc := 0)) trivial (by decide))
      (PtK.two (kc := 2) (k0 := .mk 1 0 0 0 []) (k1 := .mk 0 1 1 0 []) 0 5 0 0 b2 (PtK.leaf (kc := 0)) (PtK.leaf (kc := 0)) trivial (by decide)) trivial (by decide)
  have hU : Upd Non w W := by rw [← HW.out]; exact ((((Upd.refl.alloc _).alloc _).alloc _).alloc _).alloc _
  have C1 := Lib.hid (pNormalize_c exP W _ _ 2 1 hK (by decide))
  rw [ex_norm] at C1
  unfold pv at C1
  rw [HW.out]
  refine C1.out.mono ?_
  rintro e w2 ⟨⟨r, A, c, rfl, hnf, heq, hv, hc, hl⟩, hu2⟩
  have hr : r = exR := NF.uniq hnf exR_nf (heq.trans exR_eqv.symm)
  subst hr
  have hU2 := hU.then_non hu2
  obtain ⟨W3, HW3⟩ := nm (((w2.alloc (Obj.cells #[Value.int IntKind.i64 0] 3)).alloc (Obj.cells #[Value.int IntKind.i64 2] 3)).alloc
      (Obj.cells #[Value.slice (some ⟨w2.heap.size, 0, none⟩) 1 1, Value.int IntKind.u64 18446744073709551615, Value.slice (some ⟨w2.heap.size + 1, 0, none⟩) 1 1, Value.int IntKind.u64 1] 32))
  have hU3 : Upd Non w2 W3 := by rw [← HW3.out]; exact ((Upd.refl.alloc _).alloc _).alloc _
  have hv3 := hv.upd hU3 (fun _ _ _ f => f)
  have hV : MonsV W3 (fun _ => True) (some ⟨w2.heap.size + 1 + 1, 0, none⟩) [([0], 18446744073709551615), ([2], 1)] := by
    have b0 : Blk W3 w2.heap.size 3 #[Value.int IntKind.i64 0] := by rw [← HW3.out]; exact ((Blk.new _ _ _).alloc _).alloc _
    have b1 : Blk W3 (w2.heap.size + 1) 3 #[Value.int IntKind.i64 2] := by rw [← HW3.out]; exact (Blk.new' (by simp)).alloc _
    have b2 : Blk W3 (w2.heap.size + 1 + 1) 32 #[Value.slice (some ⟨w2.heap.size, 0, none⟩) 1 1, Value.int IntKind.u64 18446744073709551615, Value.slice (some ⟨w2.heap.size + 1, 0, none⟩) 1 1, Value.int IntKind.u64 1] := by rw [← HW3.out]; exact Blk.new' (by simp)
    refine .inr ⟨w2.heap.size + 1 + 1, 0, rfl, trivial, fun i hi => ?_⟩
    have : i = 0 ∨ i = 1 := by simp at hi; omega
    rcases this with rfl | rfl
    · exact ⟨_, _, by rw [b2.cell]; rfl, by rw [b2.cell]; rfl, by simp, Sl.of_blk (F := fun _ => True) trivial b0 1⟩
    · exact ⟨_, _, by rw [b2.cell]; rfl, by rw [b2.cell]; rfl, by simp, Sl.of_blk (F := fun _ => True) trivial b1 1⟩
  have C2 := Lib.hid (samePoly_c W3 _ _ _ _ c 2 _ _ hv3 hV (by simp [mns, exps, exR]) (by decide))
  rw [show decide (mns exR = [([0], 18446744073709551615), ([2], 1)]) = true by decide +kernel, show (mns exR).length = 2 by decide, show ([([0], 18446744073709551615), ([2], 1)] : List Mn).length = 2 by decide] at C2
  rw [show exR.length = 2 by decide]
  go_wp2_with fail
  rw [HW3.out]
  refine C2.out.mono ?_
  rintro e w4 ⟨rfl, hu4⟩
  go_wp2_with fail
  go_ret
  exact ⟨rfl, (hU2.then_non hU3).then_non hu4⟩
end Go.Proofs.Ytnefhokojbkppaa
