/-
  CongruenceExamples returns true.
-/
import Derived.Test.YtlehiklgbladoaaClasses
import Derived.Test.YtlehiklgbladoaaSame
namespace Go.Proofs.Ytlehiklgbladoaa
open Go.RowKit

def exL : List Nd := [⟨2, 0, []⟩, ⟨2, 1, []⟩, ⟨20, 0, [0]⟩, ⟨20, 0, [1]⟩]

theorem exL_ok : ∀ nd ∈ exL, NdOk nd := by
  intro nd h
  simp only [exL, List.mem_cons, List.not_mem_nil, or_false] at h
  rcases h with rfl | rfl | rfl | rfl <;> simp [NdOk, I64]

theorem ex_one {c : Nat → Nat} (h : IsCl exL [(0, 1)] c) : (List.range exL.length).map (fun i => (c i : Int)) = [0, 0, 2, 2] := by
  have r := h.resp
  have e1 : c 0 = c 1 := r.pair (0, 1) (by simp) (by simp [inR, exL]) (by simp [inR, exL])
  have e2 : c 2 = c 3 := r.cong 2 3 (by simp [exL]) (by simp [exL]) (by simp [Cg, exL, okKids, kidCs, e1])
  have n0 := h.named.le 0 (by simp [exL])
  have n2 := h.named.le 2 (by simp [exL])
  have i2 := h.named.idem 2 (by simp [exL])
  let d : Nat → Nat := fun k => if k < 2 then 0 else 1
  have hd : Resp exL [(0, 1)] d := by
    refine ⟨by simp [d], fun i j hi hj hc => ?_⟩
    have hi4 : i < 4 := hi
    have hj4 : j < 4 := hj
    match i, j, hi4, hj4 with
    | 0, 0, _, _ | 1, 1, _, _ | 2, 2, _, _ | 3, 3, _, _ => rfl
    | 0, 1, _, _ | 1, 0, _, _ | 2, 3, _, _ | 3, 2, _, _ => rfl
    | 0, 2, _, _ | 0, 3, _, _ | 1, 2, _, _ | 1, 3, _, _ | 2, 0, _, _ | 2, 1, _, _ | 3, 0, _, _ | 3, 1, _, _ => simp [Cg, exL] at hc
  have hs := fun i j a b => h.snd d hd i j a b
  have c2 : c 2 = 2 := by
    have hb := hs 2 (c 2) (by simp [exL]) (by simp [exL]; omega) i2.symm
    simp only [d] at hb
    split at hb <;> simp at hb <;> omega
  have c0 : c 0 = 0 := by omega
  have c1 : c 1 = 0 := by omega
  have c3 : c 3 = 2 := by omega
  simp [exL, List.range_succ, c0, c1, c2, c3]

theorem ex_two {c : Nat → Nat} (h : IsCl exL [] c) : (List.range exL.length).map (fun i => (c i : Int)) = [0, 1, 2, 3] := by
  have hd : Resp exL [] id := by
    refine ⟨by simp, fun i j hi hj hc => ?_⟩
    have hi4 : i < 4 := hi
    have hj4 : j < 4 := hj
    match i, j, hi4, hj4 with
    | 0, 0, _, _ | 1, 1, _, _ | 2, 2, _, _ | 3, 3, _, _ => rfl
    | 0, 1, _, _ | 1, 0, _, _ | 2, 3, _, _ | 3, 2, _, _ => simp [Cg, exL, kidCs] at hc
    | 0, 2, _, _ | 0, 3, _, _ | 1, 2, _, _ | 1, 3, _, _ | 2, 0, _, _ | 2, 1, _, _ | 3, 0, _, _ | 3, 1, _, _ => simp [Cg, exL] at hc
  have hs : ∀ i, i < 4 → c i = i := fun i hi => by
    have := h.snd id hd i (c i) hi (h.named.lt (k := i) hi) (h.named.idem i hi).symm
    exact this.symm
  simp [exL, List.range_succ, hs 0, hs 1, hs 2, hs 3]

theorem exV {w : World} {g0 g1 g2 : Nat} {t u v : TypeId} (h0 : Blk w g0 t #[.int .i64 0]) (h1 : Blk w g1 u #[.int .i64 1])
    (h2 : Blk w g2 v #[.int .i64 2, .int .i64 0, .slice none 0 0, .int .i64 2, .int .i64 1, .slice none 0 0, .int .i64 20, .int .i64 0, .slice (some ⟨g0, 0, none⟩) 1 1, .int .i64 20, .int .i64 0, .slice (some ⟨g1, 0, none⟩) 1 1]) :
    NodesV w (fun _ => True) (some ⟨g2, 0, none⟩) exL := by
  refine .inr ⟨g2, 0, rfl, trivial, fun i hi => ?_⟩
  have hi4 : i < 4 := hi
  match i, hi4 with
  | 0, _ => exact ⟨by rw [h2.cell]; rfl, by rw [h2.cell]; rfl, none, 0, by rw [h2.cell]; rfl, by simp [exL], .inl rfl⟩
  | 1, _ => exact ⟨by rw [h2.cell]; rfl, by rw [h2.cell]; rfl, none, 0, by rw [h2.cell]; rfl, by simp [exL], .inl rfl⟩
  | 2, _ => exact ⟨by rw [h2.cell]; rfl, by rw [h2.cell]; rfl, some ⟨g0, 0, none⟩, 1, by rw [h2.cell]; rfl, by simp [exL], Sl.of_blk (F := fun _ => True) trivial h0 1⟩
  | 3, _ => exact ⟨by rw [h2.cell]; rfl, by rw [h2.cell]; rfl, some ⟨g1, 0, none⟩, 1, by rw [h2.cell]; rfl, by simp [exL], Sl.of_blk (F := fun _ => True) trivial h1 1⟩

set_option maxHeartbeats 1000000 in
theorem cExamples_c (w : World) : Calls Try.prog 3 #[] w fun e w' => e = .returned (.bool true) ∧ Upd Non w w' := by
  go_enter Try.func3, Try.ntmps3
  go_wp2_with fail
  have hV := exV (((((Blk.new' rfl).alloc _).alloc _).alloc _) : Blk ((((w.alloc (Obj.cells #[Value.int IntKind.i64 0] 3)).alloc (Obj.cells #[Value.int IntKind.i64 1] 3)).alloc
        (Obj.cells #[Value.int IntKind.i64 2, Value.int IntKind.i64 0, Value.slice none 0 0, Value.int IntKind.i64 2, Value.int IntKind.i64 1, Value.slice none 0 0, Value.int IntKind.i64 20, Value.int IntKind.i64 0,
            Value.slice (some { block := w.heap.size, off := 0 }) 1 1, Value.int IntKind.i64 20, Value.int IntKind.i64 0, Value.slice (some { block := w.heap.size + 1, off := 0 }) 1 1] 24)).alloc
    (Obj.cells #[Value.int IntKind.i64 0, Value.int IntKind.i64 1] 28)) w.heap.size _ _) (((Blk.new' (n := w.heap.size + 1) (by simp)).alloc _).alloc _) ((Blk.new' (n := w.heap.size + 1 + 1) (by simp)).alloc _)
  have hP := (Blk.new' (w := (((w.alloc (Obj.cells #[Value.int IntKind.i64 0] 3)).alloc (Obj.cells #[Value.int IntKind.i64 1] 3)).alloc
        (Obj.cells #[Value.int IntKind.i64 2, Value.int IntKind.i64 0, Value.slice none 0 0, Value.int IntKind.i64 2, Value.int IntKind.i64 1, Value.slice none 0 0, Value.int IntKind.i64 20, Value.int IntKind.i64 0,
            Value.slice (some { block := w.heap.size, off := 0 }) 1 1, Value.int IntKind.i64 20, Value.int IntKind.i64 0, Value.slice (some { block := w.heap.size + 1, off := 0 }) 1 1] 24))) (t := 28) (cs := #[Value.int IntKind.i64 0, Value.int IntKind.i64 1]) (n := w.heap.size + 1 + 1 + 1) (by simp))
  have hU : Upd Non w ((((w.alloc (Obj.cells #[Value.int IntKind.i64 0] 3)).alloc (Obj.cells #[Value.int IntKind.i64 1] 3)).alloc
        (Obj.cells #[Value.int IntKind.i64 2, Value.int IntKind.i64 0, Value.slice none 0 0, Value.int IntKind.i64 2, Value.int IntKind.i64 1, Value.slice none 0 0, Value.int IntKind.i64 20, Value.int IntKind.i64 0,
            Value.slice (some { block := w.heap.size, off := 0 }) 1 1, Value.int IntKind.i64 20, Value.int IntKind.i64 0, Value.slice (some { block := w.heap.size + 1, off := 0 }) 1 1] 24)).alloc
    (Obj.cells #[Value.int IntKind.i64 0, Value.int IntKind.i64 1] 28)) := (((Upd.refl.alloc _).alloc _).alloc _).alloc _
  generalize ((((w.alloc (Obj.cells #[Value.int IntKind.i64 0] 3)).alloc (Obj.cells #[Value.int IntKind.i64 1] 3)).alloc
        (Obj.cells #[Value.int IntKind.i64 2, Value.int IntKind.i64 0, Value.slice none 0 0, Value.int IntKind.i64 2, Value.int IntKind.i64 1, Value.slice none 0 0, Value.int IntKind.i64 20, Value.int IntKind.i64 0,
            Value.slice (some { block := w.heap.size, off := 0 }) 1 1, Value.int IntKind.i64 20, Value.int IntKind.i64 0, Value.slice (some { block := w.heap.size + 1, off := 0 }) 1 1] 24)).alloc
    (Obj.cells #[Value.int IntKind.i64 0, Value.int IntKind.i64 1] 28)) = W at *
  have hPV : PairsV W (fun _ => True) (some ⟨w.heap.size + 1 + 1 + 1, 0, none⟩) [(0, 1)] := .inr ⟨_, 0, rfl, trivial, fun i hi => by
    have hi1 : i < 1 := hi
    match i, hi1 with
    | 0, _ => exact ⟨by rw [hP.cell]; rfl, by rw [hP.cell]; rfl⟩⟩
  refine (classes_c W _ _ _ 4 1 exL [(0, 1)] hV hPV (by simp [exL]) (by simp) exL_ok).mono ?_
  rintro e w1 ⟨c, A, cc, hcl, rfl, _, hi, hu⟩
  rw [ex_one hcl] at hi
  have hV1 := hV.upd hu (fun _ _ _ f => f)
  have hU1 := hU.then_non hu
  clear hV hP hU hPV hcl hu
  go_wp2_with fail
  refine (sameInts_c _ _ (fun _ => True) A (some ⟨w1.heap.size, 0, none⟩) cc 4 _ [0, 0, 2, 2] (hi.upd (Upd.refl.alloc _ (S := Non)) (fun _ _ _ f => f)) (Ints.new _ rfl rfl) (by simp)).mono ?_
  rintro e w2 ⟨rfl, n, rfl⟩
  have hV2 := hV1.upd ((Upd.refl.alloc (.cells #[Value.int IntKind.i64 0, Value.int IntKind.i64 0, Value.int IntKind.i64 2, Value.int IntKind.i64 2] 3) (S := Non)).drewN n) (fun _ _ _ f => f)
  have hU2 := (hU1.alloc (.cells #[Value.int IntKind.i64 0, Value.int IntKind.i64 0, Value.int IntKind.i64 2, Value.int IntKind.i64 2] 3)).drewN n
  rw [show decide (([0, 0, 2, 2] : List Int) = [0, 0, 2, 2]) = true from by decide]
  clear hi hV1 hU1
  go_wp2_with fail
  refine (classes_c _ _ _ none 4 0 exL [] hV2 (.inl rfl) (by simp [exL]) (by simp) exL_ok).mono ?_
  rintro e w3 ⟨c2, A2, cc2, hcl, rfl, _, hi, hu⟩
  rw [ex_two hcl] at hi
  have hU3 := hU2.then_non hu
  clear hV2 hU2 hcl hu
  go_wp2_with fail
  refine (sameInts_c _ _ (fun _ => True) A2 (some ⟨w3.heap.size, 0, none⟩) cc2 4 _ [0, 1, 2, 3] (hi.upd (Upd.refl.alloc _ (S := Non)) (fun _ _ _ f => f)) (Ints.new _ rfl rfl) (by simp)).mono ?_
  rintro e w4 ⟨rfl, n2, rfl⟩
  rw [show decide (([0, 1, 2, 3] : List Int) = [0, 1, 2, 3]) = true from by decide]
  go_wp2_with fail
  go_ret
  exact ⟨rfl, (hU3.alloc _).drewN _⟩
end Go.Proofs.Ytlehiklgbladoaa
