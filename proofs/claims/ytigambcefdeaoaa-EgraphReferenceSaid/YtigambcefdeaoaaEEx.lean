/-
  EgraphExamples returns true.
-/
import Derived.Test.YtigambcefdeaoaaFGr
namespace Go.Proofs.Ytigambcefdeaoaa
open Go.RowKit

def exL : List Nd := [⟨2, 0, []⟩, ⟨2, 1, []⟩, ⟨20, 0, [0]⟩, ⟨20, 0, [1]⟩]
def exD : List Nd := [⟨2, 0, []⟩, ⟨2, 0, []⟩]
def exS : Stp := ⟨0, 1, 1, [], []⟩
theorem exL_ok : ∀ nd ∈ exL, NdOk nd := by
  intro nd h
  simp only [exL, List.mem_cons, List.not_mem_nil, or_false] at h
  rcases h with rfl | rfl | rfl | rfl <;> simp [NdOk, I64]
theorem exD_ok : ∀ nd ∈ exD, NdOk nd := by
  intro nd h
  simp only [exD, List.mem_cons, List.not_mem_nil, or_false] at h
  rcases h with rfl | rfl <;> simp [NdOk, I64]
theorem exL_sorted : allSorted exL := by
  intro i hi
  have h4 : i < 4 := hi
  match i, h4 with
  | 0, _ => decide +kernel
  | 1, _ => decide +kernel
  | 2, _ => decide +kernel
  | 3, _ => decide +kernel
theorem exL_nodup : nodup exL := by
  intro i j hi hj hij
  have h4 : j < 4 := hj
  have h4' : i < 4 := hi
  have : ∀ i, i < 4 → ∀ j, j < 4 → i < j → exL.getD i nd0 ≠ exL.getD j nd0 := by
    intro i hi j hj hij
    rcases i with _ | _ | _ | i <;> rcases j with _ | _ | _ | _ | j <;> first | omega | simp [exL]
  have := this i h4' j h4 hij
  rwa [getD_of hi, getD_of hj] at this
theorem exD_sorted : allSorted exD := by
  intro i hi
  have h4 : i < 2 := hi
  match i, h4 with
  | 0, _ => decide +kernel
  | 1, _ => decide +kernel
theorem exD_dup : ¬ nodup exD := fun h => h 0 1 (by decide) (by decide) (by decide) rfl
theorem exL_wf : GWf (newG exL) := newG_wf (by decide) exL_sorted exL_ok exL_nodup
theorem ex_uniOk : uniOk (newG exL) exS = true := by decide +kernel
theorem ex_uniNew : uniNew (newG exL) exS = true := by decide +kernel
theorem ex_find3 : findF ((newG exL).merge exS) 3 = 3 := by decide +kernel
theorem ex_reb1 : reb ((newG exL).merge exS).c ((newG exL).merge exS).L = some (2, 3) := by decide +kernel
theorem ex_reb2 : reb (((newG exL).merge exS).merge (cgStep 2 3)).c (((newG exL).merge exS).merge (cgStep 2 3)).L = none := by decide +kernel
theorem ex_reb {n : Nat} {G : EG} (h : Reb ((newG exL).merge exS) n G) : n = 1 ∧ findF G 3 = 2 ∧ G.T.length = 2 ∧ ∀ s ∈ G.T, s.vars.length ≤ 100000000000 ∧ s.imms.length ≤ 100000000000 := by
  cases h with
  | done h => rw [ex_reb1] at h; cases h
  | step h h2 =>
    rw [ex_reb1] at h
    injection h with h
    injection h with h1 h3
    subst h1; subst h3
    cases h2 with
    | done _ => exact ⟨rfl, by decide +kernel, by decide +kernel, by simp [EG.merge, newG, cgStep, exS]⟩
    | step h _ => rw [ex_reb2] at h; cases h

theorem exV {w : World} {g0 g1 g2 : Nat} {t u v : TypeId} (h0 : Blk w g0 t #[.int .i64 0]) (h1 : Blk w g1 u #[.int .i64 1])
    (h2 : Blk w g2 v #[.int .i64 2, .int .i64 0, .slice none 0 0, .int .i64 2, .int .i64 1, .slice none 0 0, .int .i64 20, .int .i64 0, .slice (some ⟨g0, 0, none⟩) 1 1, .int .i64 20, .int .i64 0, .slice (some ⟨g1, 0, none⟩) 1 1]) :
    NodesV w (fun _ => True) (some ⟨g2, 0, none⟩) exL := by
  refine .inr ⟨g2, 0, rfl, trivial, fun i hi => ?_⟩
  have hi4 : i < 4 := hi
  match i, hi4 with
  | 0, _ => exact ⟨by rw [h2.cell]; rfl, by rw [h2.cell]; rfl, none, 0, by rw [h2.cell]; rfl, by simp [exL], .inl rfl⟩
  | 1, _ => exact ⟨by rw [h2.cell]; rfl, by rw [h2.cell]; rfl, none, 0, by rw [h2.cell]; rfl, by simp [exL], .inl rfl⟩
  | 2, _ => exact ⟨by rw [h2.cell]; rfl, by rw [h2.cell]; rfl, some ⟨g0, 0, none⟩, 1, by rw [h2.cell]; rfl, by simp [exL], Sl.of_blk (F := fun _ => True) trivial h0 1⟩
  | 3, _ => exact ⟨by rw [h2.cell]; rfl, by rw [h2.cell]; rfl, some ⟨g1, 0, none⟩, 1, by rw [h2.cell]; rfl, by simp [exL], Sl.of_blk (F := fun _ => True) trivial h1 1⟩
theorem exDV {w : World} {g2 : Nat} {v : TypeId} (h2 : Blk w g2 v #[.int .i64 2, .int .i64 0, .slice none 0 0, .int .i64 2, .int .i64 0, .slice none 0 0]) :
    NodesV w (fun _ => True) (some ⟨g2, 0, none⟩) exD := by
  refine .inr ⟨g2, 0, rfl, trivial, fun i hi => ?_⟩
  have hi4 : i < 2 := hi
  match i, hi4 with
  | 0, _ => exact ⟨by rw [h2.cell]; rfl, by rw [h2.cell]; rfl, none, 0, by rw [h2.cell]; rfl, by simp [exD], .inl rfl⟩
  | 1, _ => exact ⟨by rw [h2.cell]; rfl, by rw [h2.cell]; rfl, none, 0, by rw [h2.cell]; rfl, by simp [exD], .inl rfl⟩

set_option maxRecDepth 100000 in
set_option maxHeartbeats 2000000 in
theorem eExamples_c (w : World) : Calls Try.prog 3 #[] w fun e w' => e = .returned (.bool true) ∧ Upd Non w w' := by
  go_enter Try.func3, Try.ntmps3
  go_wp2_with fail
  obtain ⟨W, HW⟩ := nm (((w.alloc (Obj.cells #[Value.int IntKind.i64 0] 3)).alloc (Obj.cells #[Value.int IntKind.i64 1] 3)).alloc
        (Obj.cells #[Value.int IntKind.i64 2, Value.int IntKind.i64 0, Value.slice none 0 0, Value.int IntKind.i64 2, Value.int IntKind.i64 1, Value.slice none 0 0, Value.int IntKind.i64 20, Value.int IntKind.i64 0,
            Value.slice (some { block := w.heap.size, off := 0 }) 1 1, Value.int IntKind.i64 20, Value.int IntKind.i64 0, Value.slice (some { block := w.heap.size + 1, off := 0 }) 1 1] 24))
  have hV : NodesV W (fun _ => True) (some ⟨w.heap.size + 1 + 1, 0, none⟩) exL := by
    rw [← HW.out]
    exact exV (((Blk.new' rfl).alloc _).alloc _) ((Blk.new' (n := w.heap.size + 1) (by simp)).alloc _) (Blk.new' (n := w.heap.size + 1 + 1) (by simp))
  have hU : Upd Non w W := by rw [← HW.out]; exact ((Upd.refl.alloc _).alloc _).alloc _
  have C1 := Lib.hid (fNew_c W _ _ 4 exL hV (by decide) (by decide) exL_ok (by decide) exL_sorted exL_nodup)
  rw [show exL.length = 4 from rfl] at C1
  rw [HW.out]
  go_wp2_with fail
  refine C1.out.mono ?_
  rintro e w1 ⟨gb, rfl, hg1, hu1⟩
  have hU1 := hU.then_non hu1
  have C2 := Lib.hid (fUnion_c w1 _ gb _ hg1 exL_wf (by decide) exS none none 0 0 .nil .nil (by decide) (by decide))
  unfold uniRet at C2
  rw [ex_uniNew, ex_uniOk, show uniG (newG exL) exS = (newG exL).merge exS from by unfold uniG; rw [ex_uniNew]; rfl] at C2
  simp only [if_true] at C2
  unfold gp stpV at C2
  unfold exS at C2
  unfold gp
  go_wp2_with fail
  refine C2.out.mono ?_
  rintro e w2 ⟨rfl, hg2, hu2⟩
  have C3 := Lib.hid (fFind_c w2 _ gb _ hg2 3)
  have e3 := ex_find3
  unfold exS at e3
  rw [e3] at C3
  have HU2 := hU1.out_trans hu2 (fun i hi => by show i < W.heap.size; have := hU.size; omega)
  clear C1 C2 e3
  unfold gp at C3
  go_wp2_with fail
  refine C3.out.mono ?_
  rintro e w2' ⟨rfl, rfl⟩
  have C4 := Lib.hid (fRebuild_c w2 _ gb _ hg2 (exL_wf.merge (by decide) (by decide)) (by decide))
  unfold gp at C4
  go_wp2_with fail
  refine C4.out.mono ?_
  rintro e w3 ⟨n, G', hr, hn2, rfl, hg3, hu3⟩
  obtain ⟨rfl, hf3, hT3, hs3⟩ := ex_reb hr
  have HU3 := HU2.out_trans hu3 (fun i hi => by show i < W.heap.size; have := hU.size; omega)
  obtain ⟨W4, HW4⟩ := nm (w3.alloc (Obj.cells #[Value.int IntKind.i64 2, Value.int IntKind.i64 0, Value.slice none 0 0, Value.int IntKind.i64 2, Value.int IntKind.i64 0, Value.slice none 0 0] 24))
  have uA : Upd Non w3 W4 := by rw [← HW4.out]; exact Upd.refl.alloc _
  have hV4 : NodesV W4 (fun _ => True) (some ⟨w3.heap.size, 0, none⟩) exD := by rw [← HW4.out]; exact exDV (Blk.new _ _ _)
  have C5 := Lib.hid (gNew_c W4 _ _ 2 exD hV4 (by decide) (by decide) exD_ok (by decide))
  rw [show exD.length = 2 from rfl] at C5
  clear C3 C4 hr hu2 hu3
  go_wp2_with fail
  rw [HW4.out]
  refine C5.out.mono ?_
  rintro e w5 ⟨hp, hu5⟩
  have he : e = .returned (.tuple #[.pointer none, .int .i64 4]) := by
    rcases hp with ⟨h, _⟩ | ⟨_, h, _⟩ | ⟨_, _, _, h⟩ | ⟨_, _, h, _⟩
    · exact absurd h (by decide)
    · exact absurd exD_sorted h
    · exact h
    · exact absurd h exD_dup
  subst he
  have hg5 := (hg3.non uA).non hu5
  have C6 := Lib.hid (fFind_c w5 _ gb _ hg5 3)
  have C7 := Lib.hid (fSteps_c w5 _ gb _ hg5 (by omega) hs3)
  rw [hf3] at C6
  rw [hT3] at C7
  unfold gp at C6 C7
  have HU5 := (HU3.then_non uA).then_non hu5
  clear C5 hf3 hT3 hg3 hp
  go_wp2_with fail
  refine C6.out.mono ?_
  rintro e w5' ⟨rfl, rfl⟩
  go_wp2_with fail
  refine C7.out.mono ?_
  rintro e w6 ⟨A, c, rfl, _, hu6⟩
  go_wp2_with fail
  go_ret
  exact ⟨rfl, HU5.then_non hu6⟩
end Go.Proofs.Ytigambcefdeaoaa
