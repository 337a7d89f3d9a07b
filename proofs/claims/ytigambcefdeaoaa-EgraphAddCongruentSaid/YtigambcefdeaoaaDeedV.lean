/-
  Deeds as they lie in memory, and opened as an argument. No condition of its own.
-/
import Derived.Test.YtigambcefdeaoaaOpenN
import Derived.Test.YtigambcefdeaoaaGRead
namespace Go.Proofs.Ytigambcefdeaoaa
open Go.RowKit Go.WideShapes Go.ChangeShapes Go.ChangeAt

/-- A deed: four numbers and a step. -/
structure Dd where
  what : Int
  a : Int
  b : Int
  op : Int
  s : Stp
def DeedAt (w : World) (F : Nat → Prop) (b o : Nat) (d : Dd) : Prop :=
  w.cell? ⟨b, o, none⟩ = some (.int .i64 d.what) ∧ w.cell? ⟨b, o + 1, none⟩ = some (.int .i64 d.a) ∧ w.cell? ⟨b, o + 2, none⟩ = some (.int .i64 d.b) ∧ w.cell? ⟨b, o + 3, none⟩ = some (.int .i64 d.op) ∧ StepAt w F b (o + 4) d.s
def DeedsV (w : World) (F : Nat → Prop) (A : Option Addr) (ds : List Dd) : Prop :=
  ds = [] ∨ ∃ b off, A = some ⟨b, off, none⟩ ∧ F b ∧ ∀ i (h : i < ds.length), DeedAt w F b (off + i * 9) ds[i]
def StpOk (s : Stp) : Prop := I64 s.l ∧ I64 s.r ∧ I64 s.why ∧ 8 * s.vars.length + 4096 ≤ 140737488355328 ∧ 8 * s.imms.length + 4096 ≤ 140737488355328
def DdOk (d : Dd) : Prop := I64 d.what ∧ I64 d.a ∧ I64 d.b ∧ I64 d.op ∧ StpOk d.s
section
variable {w w' : World} {F G S : Nat → Prop} {A : Option Addr} {ds : List Dd}
theorem StepAt.upd {b o : Nat} {s : Stp} (h : StepAt w F b o s) (u : Upd S w w') (d : ∀ k, k < w.heap.size → F k → ¬ S k) (db : ¬ S b) : StepAt w' F b o s := by
  obtain ⟨h1, h2, h3, VA, vc, MA, mc, h4, h5, h6, h7, h8, h9⟩ := h
  exact ⟨cell_upd h1 u db, cell_upd h2 u db, cell_upd h3 u db, VA, vc, MA, mc, cell_upd h4 u db, cell_upd h5 u db, h6, h7, h8.upd u d, h9.upd u d⟩
theorem StepAt.mono {b o : Nat} {s : Stp} (h : StepAt w F b o s) (hFG : ∀ k, k < w.heap.size → F k → G k) : StepAt w G b o s := by
  obtain ⟨h1, h2, h3, VA, vc, MA, mc, h4, h5, h6, h7, h8, h9⟩ := h
  exact ⟨h1, h2, h3, VA, vc, MA, mc, h4, h5, h6, h7, h8.mono hFG, h9.mono hFG⟩
theorem DeedsV.upd (h : DeedsV w F A ds) (u : Upd S w w') (d : ∀ k, k < w.heap.size → F k → ¬ S k) : DeedsV w' F A ds := by
  rcases h with h | ⟨b, off, e, hF, hc⟩
  · exact .inl h
  · refine .inr ⟨b, off, e, hF, fun i hi => ?_⟩
    obtain ⟨h1, h2, h3, h4, h5⟩ := hc i hi
    have db := d b (World.block_lt_of_cell? w _ h1) hF
    exact ⟨cell_upd h1 u db, cell_upd h2 u db, cell_upd h3 u db, cell_upd h4 u db, h5.upd u d db⟩
theorem DeedsV.mono (h : DeedsV w F A ds) (hFG : ∀ k, k < w.heap.size → F k → G k) : DeedsV w G A ds := by
  rcases h with h | ⟨b, off, e, hF, hc⟩
  · exact .inl h
  · by_cases hn : ds = []
    · exact .inl hn
    · have h0 : 0 < ds.length := List.length_pos_iff.2 hn
      refine .inr ⟨b, off, e, hFG b (World.block_lt_of_cell? w _ (hc 0 h0).1) hF, fun i hi => ?_⟩
      obtain ⟨h1, h2, h3, h4, h5⟩ := hc i hi
      exact ⟨h1, h2, h3, h4, h5.mono hFG⟩
theorem DeedsV.at_ (h : DeedsV w F A ds) {i : Nat} (hi : i < ds.length) : ∃ b off, A = some ⟨b, off, none⟩ ∧ F b ∧ b < w.heap.size ∧ DeedAt w F b (off + i * 9) ds[i] := by
  rcases h with h | ⟨b, off, e, hF, hc⟩
  · subst h; simp at hi
  · exact ⟨b, off, e, hF, World.block_lt_of_cell? w _ (hc i hi).1, hc i hi⟩
end

theorem cells_Step : Try.prog.cellsOf 34 = 5 := by kernel_rfl
theorem cells_Deed : Try.prog.cellsOf 46 = 9 := by kernel_rfl
theorem cells_i64s : Try.prog.cellsOf 32 = 1 := by kernel_rfl
theorem bytes_Deed : Try.prog.bytesOf 46 = 104 := by kernel_rfl
theorem bytes_int64 : Try.prog.bytesOf 2 = 8 := by kernel_rfl
theorem und_Step : ∃ f0 f1 f2 f3 f4 : Field, Try.prog.underlying 34 = some (.struct #[f0, f1, f2, f3, f4]) ∧ (f0.type = 3 ∧ f0.offset = 0) ∧ (f1.type = 3 ∧ f1.offset = 1) ∧ (f2.type = 3 ∧ f2.offset = 2) ∧ (f3.type = 22 ∧ f3.offset = 3) ∧ (f4.type = 32 ∧ f4.offset = 4) := ⟨_, _, _, _, _, Try.underlying34, ⟨rfl, rfl⟩, ⟨rfl, rfl⟩, ⟨rfl, rfl⟩, ⟨rfl, rfl⟩, ⟨rfl, rfl⟩⟩
theorem und_Deed : ∃ f0 f1 f2 f3 f4 : Field, Try.prog.underlying 46 = some (.struct #[f0, f1, f2, f3, f4]) ∧ (f0.type = 3 ∧ f0.offset = 0) ∧ (f1.type = 3 ∧ f1.offset = 1) ∧ (f2.type = 3 ∧ f2.offset = 2) ∧ (f3.type = 3 ∧ f3.offset = 3) ∧ (f4.type = 34 ∧ f4.offset = 4) := ⟨_, _, _, _, _, Try.underlying46, ⟨rfl, rfl⟩, ⟨rfl, rfl⟩, ⟨rfl, rfl⟩, ⟨rfl, rfl⟩, ⟨rfl, rfl⟩⟩

section
variable {H : Type} {enc : TypeId × Value → H} {w : World} {base : Nat} {sp : Nat → Bool} {held : Bool}

set_option maxRecDepth 100000 in
theorem open_stepT {fuel : Nat} {cs : List Value} {x : DataW H × List MemPlace} (h : DataW.trod enc Try.prog w base sp held fuel 34 cs = some x) (hw : Wt Try.prog 34 x.1) :
    ∃ s VA vc MA mc, cs = [.int .i64 (Stp.l s), .int .i64 s.r, .int .i64 s.why, .slice VA s.vars.length vc, .slice MA s.imms.length mc] ∧ s.vars.length ≤ vc ∧ s.imms.length ≤ mc ∧ Ints w (fun _ => True) VA s.vars ∧ Ints w (fun _ => True) MA s.imms ∧ StpOk s := by
  obtain ⟨f0, f1, f2, f3, f4, hu, ⟨t0, o0⟩, ⟨t1, o1⟩, ⟨t2, o2⟩, ⟨t3, o3⟩, ⟨t4, o4⟩⟩ := und_Step
  obtain ⟨xs, n, _, rfl, hl, hlen, hf⟩ := DataW.trod_struct hu h
  rw [cells_Step] at hl
  match cs, hl with
  | [v0, v1, v2, v3, v4], _ =>
    match xs, hlen with
    | [y0, y1, y2, y3, y4], _ =>
      have g0 := hf 0 f0 rfl
      have g1 := hf 1 f1 rfl
      have g2 := hf 2 f2 rfl
      have g3 := hf 3 f3 rfl
      have g4 := hf 4 f4 rfl
      have w3 := hw.part hu (j := 3) (f := f3) (d := y3.1) rfl rfl
      have w4 := hw.part hu (j := 4) (f := f4) (d := y4.1) rfl rfl
      rw [t0, o0, cells_int] at g0
      rw [t1, o1, cells_int] at g1
      rw [t2, o2, cells_int] at g2
      rw [t3, o3, cells_ints] at g3
      rw [t4, o4, cells_i64s] at g4
      rw [t3] at w3
      rw [t4] at w4
      simp at g0 g1 g2 g3 g4
      obtain ⟨a, e0, i0⟩ := open_intT Try.underlying3 g0
      obtain ⟨b, e1, i1⟩ := open_intT Try.underlying3 g1
      obtain ⟨c, e2, i2⟩ := open_intT Try.underlying3 g2
      obtain ⟨VA, vc, vs, e3, hv1, hv2, _, hv3⟩ := open_intsT Try.underlying22 Try.underlying3 cells_int bytes_int g3 w3
      obtain ⟨MA, mc, ms, e4, hm1, hm2, _, hm3⟩ := open_intsT Try.underlying32 Try.underlying2 cells_int64 bytes_int64 g4 w4
      simp at e0 e1 e2 e3 e4
      subst e0; subst e1; subst e2; subst e3; subst e4
      exact ⟨⟨a, b, c, vs, ms⟩, VA, vc, MA, mc, rfl, hv1, hm1, hv2, hm2, i0, i1, i2, hv3, hm3⟩

set_option maxRecDepth 100000 in
theorem open_deedT {fuel : Nat} {cs : List Value} {x : DataW H × List MemPlace} (h : DataW.trod enc Try.prog w base sp held fuel 46 cs = some x) (hw : Wt Try.prog 46 x.1) :
    ∃ d VA vc MA mc, cs = [.int .i64 (Dd.what d), .int .i64 d.a, .int .i64 d.b, .int .i64 d.op, .int .i64 d.s.l, .int .i64 d.s.r, .int .i64 d.s.why, .slice VA d.s.vars.length vc, .slice MA d.s.imms.length mc] ∧ d.s.vars.length ≤ vc ∧ d.s.imms.length ≤ mc ∧ Ints w (fun _ => True) VA d.s.vars ∧ Ints w (fun _ => True) MA d.s.imms ∧ DdOk d := by
  obtain ⟨f0, f1, f2, f3, f4, hu, ⟨t0, o0⟩, ⟨t1, o1⟩, ⟨t2, o2⟩, ⟨t3, o3⟩, ⟨t4, o4⟩⟩ := und_Deed
  obtain ⟨xs, n, _, rfl, hl, hlen, hf⟩ := DataW.trod_struct hu h
  rw [cells_Deed] at hl
  match cs, hl with
  | [v0, v1, v2, v3, v4, v5, v6, v7, v8], _ =>
    match xs, hlen with
    | [y0, y1, y2, y3, y4], _ =>
      have g0 := hf 0 f0 rfl
      have g1 := hf 1 f1 rfl
      have g2 := hf 2 f2 rfl
      have g3 := hf 3 f3 rfl
      have g4 := hf 4 f4 rfl
      have w4 := hw.part hu (j := 4) (f := f4) (d := y4.1) rfl rfl
      rw [t0, o0, cells_int] at g0
      rw [t1, o1, cells_int] at g1
      rw [t2, o2, cells_int] at g2
      rw [t3, o3, cells_int] at g3
      rw [t4, o4, cells_Step] at g4
      rw [t4] at w4
      simp at g0 g1 g2 g3 g4
      obtain ⟨a, e0, i0⟩ := open_intT Try.underlying3 g0
      obtain ⟨b, e1, i1⟩ := open_intT Try.underlying3 g1
      obtain ⟨c, e2, i2⟩ := open_intT Try.underlying3 g2
      obtain ⟨o, e3, i3⟩ := open_intT Try.underlying3 g3
      obtain ⟨s, VA, vc, MA, mc, e4, q1, q2, q3, q4, q5⟩ := open_stepT g4 w4
      simp at e0 e1 e2 e3 e4
      obtain ⟨rfl, rfl, rfl, rfl, rfl⟩ := e4
      subst e0; subst e1; subst e2; subst e3
      exact ⟨⟨a, b, c, o, s⟩, VA, vc, MA, mc, rfl, q1, q2, q3, q4, i0, i1, i2, i3, q5⟩

set_option maxRecDepth 100000 in
theorem open_deedsV {r : Reach} {b0 : Nat} {v : Value} {d : DataW H} {ps : List MemPlace} (hval : Value.okWide Try.prog w r b0 43 v) (hd : DataW.Trod enc Try.prog w base sp held 43 v d ps) (hw : Wt Try.prog 43 d) :
    ∃ A c L, v = .slice A (List.length L) c ∧ L.length ≤ c ∧ DeedsV w (fun _ => True) A L ∧ (∀ x ∈ L, DdOk x) ∧ 104 * L.length ≤ 140737488355328 := by
  obtain ⟨a0, len, cap, rfl⟩ := okWide_slice Try.underlying43 hval
  obtain ⟨fuel, hf⟩ := hd
  rcases Go.Deep.open_slice Try.underlying43 hf with ⟨hcs, hx⟩ | ⟨a, len', cap', m, n, D, Pl, hcs, _, hl, hm, hmm, hx, hcell⟩
  · simp [Value.cells] at hcs
    obtain ⟨rfl, rfl, rfl⟩ := hcs
    exact ⟨none, 0, [], rfl, by simp, .inl rfl, by simp, by simp⟩
  · simp [Value.cells] at hcs
    obtain ⟨rfl, rfl, rfl⟩ := hcs
    simp only [Prod.mk.injEq] at hx
    obtain ⟨rfl, rfl⟩ := hx
    have hlm : len ≤ m := by rw [hmm]; split <;> omega
    have hwt := hw.head Try.underlying43
    rw [bytes_Deed] at hwt
    simp only [List.length_map, List.length_range, reachBytes] at hwt
    have each : ∀ i, i < len → ∃ x : Dd, ∃ VA vc MA mc, (∀ j, j < 9 → w.cell? ((a.add (i * 9)).add j) = [Value.int .i64 x.what, .int .i64 x.a, .int .i64 x.b, .int .i64 x.op, .int .i64 x.s.l, .int .i64 x.s.r, .int .i64 x.s.why, .slice VA x.s.vars.length vc, .slice MA x.s.imms.length mc][j]?) ∧ x.s.vars.length ≤ vc ∧ x.s.imms.length ≤ mc ∧ Ints w (fun _ => True) VA x.s.vars ∧ Ints w (fun _ => True) MA x.s.imms ∧ DdOk x := fun i hi => by
      obtain ⟨cs', h1, h2⟩ := hcell i (by omega)
      rw [cells_Deed] at h1
      obtain ⟨_, _, h3⟩ := World.cells?_some h1
      obtain ⟨x, VA, vc, MA, mc, rfl, h4⟩ := open_deedT h2 (hw.elem Try.underlying43 (List.mem_map.2 ⟨i, List.mem_range.2 hi, rfl⟩))
      exact ⟨x, VA, vc, MA, mc, h3, h4⟩
    obtain ⟨L, hL, hp⟩ := list_of len each
    subst hL
    refine ⟨some a, cap, L, rfl, hl, ?_, fun x hx => ?_, by omega⟩
    · by_cases h0 : L.length = 0
      · exact .inl (List.eq_nil_of_length_eq_zero h0)
      · obtain ⟨b, off, spot⟩ := a
        obtain ⟨VA, vc, MA, mc, hh, _⟩ := hp 0 (by omega)
        have h1 := hh 0 (by omega)
        have hspot : spot = none := spot_none (by simpa [Addr.add] using h1)
        subst hspot
        refine .inr ⟨b, off, rfl, trivial, fun i hi => ?_⟩
        obtain ⟨VA, vc, MA, mc, hh, q1, q2, q3, q4, _⟩ := hp i hi
        have c0 := hh 0 (by omega)
        have c1 := hh 1 (by omega)
        have c2 := hh 2 (by omega)
        have c3 := hh 3 (by omega)
        have c4 := hh 4 (by omega)
        have c5 := hh 5 (by omega)
        have c6 := hh 6 (by omega)
        have c7 := hh 7 (by omega)
        have c8 := hh 8 (by omega)
        simp only [Addr.add_lit] at c0 c1 c2 c3 c4 c5 c6 c7 c8
        exact ⟨c0, c1, c2, c3, c4, c5, c6, VA, vc, MA, mc, c7, c8, q1, q2, q3, q4⟩
    · obtain ⟨i, hi, rfl⟩ := List.mem_iff_getElem.1 hx
      obtain ⟨VA, vc, MA, mc, hh, q1, q2, q3, q4, q5⟩ := hp i hi
      exact q5
end
end Go.Proofs.Ytigambcefdeaoaa
