/-
  Deeds as they lie in memory, and opened as an argument. No condition of its own.
  What the method Node of a deed does: it makes a node.
-/
import Derived.Test.YtigambcefdeaoaaOpenN
import Derived.Test.YtigambcefdeaoaaGRead
import Derived.Test.YtigambcefdeaoaaGClA
import Derived.Test.YtigambcefdeaoaaDrawn
import Derived.IntWalk
namespace Go.Proofs.Ytigambcefdeaoaa
open Go.RowKit Go.WideShapes Go.ChangeShapes Go.ChangeAt

/-- A deed: four numbers and a step. -/
structure Dd where
  what : Int
  a : Int
  b : Int
  op : Int
  s : Stp
def DeedAt (w : World) (F : Nat → Prop) (b o : Nat) (d : Dd) : Prop :=
  w.cell? ⟨b, o, none⟩ = some (.int .i64 d.what) ∧ w.cell? ⟨b, o + 1, none⟩ = some (.int .i64 d.a) ∧ w.cell? ⟨b, o + 2, none⟩ = some (.int .i64 d.b) ∧ w.cell? ⟨b, o + 3, none⟩ = some (.int .i64 d.op) ∧ StepAt w F b (o + 4) d.s
def DeedsV (w : World) (F : Nat → Prop) (A : Option Addr) (ds : List Dd) : Prop :=
  ds = [] ∨ ∃ b off, A = some ⟨b, off, none⟩ ∧ F b ∧ ∀ i (h : i < ds.length), DeedAt w F b (off + i * 9) ds[i]
def StpOk (s : Stp) : Prop := I64 s.l ∧ I64 s.r ∧ I64 s.why ∧ 8 * s.vars.length + 4096 ≤ 140737488355328 ∧ 8 * s.imms.length + 4096 ≤ 140737488355328
def DdOk (d : Dd) : Prop := I64 d.what ∧ I64 d.a ∧ I64 d.b ∧ I64 d.op ∧ StpOk d.s
section
variable {w w' : World} {F G S : Nat → Prop} {A : Option Addr} {ds : List Dd}
theorem StepAt.upd {b o : Nat} {s : Stp} (h : StepAt w F b o s) (u : Upd S w w') (d : ∀ k, k < w.heap.size → F k → ¬ S k) (db : ¬ S b) : StepAt w' F b o s := by
  obtain ⟨h1, h2, h3, VA, vc, MA, mc, h4, h5, h6, h7, h8, h9⟩ := h
  exact ⟨cell_upd h1 u db, cell_upd h2 u db, cell_upd h3 u db, VA, vc, MA, mc, cell_upd h4 u db, cell_upd h5 u db, h6, h7, h8.upd u d, h9.upd u d⟩
theorem StepAt.mono {b o : Nat} {s : Stp} (h : StepAt w F b o s) (hFG : ∀ k, k < w.heap.size → F k → G k) : StepAt w G b o s := by
  obtain ⟨h1, h2, h3, VA, vc, MA, mc, h4, h5, h6, h7, h8, h9⟩ := h
  exact ⟨h1, h2, h3, VA, vc, MA, mc, h4, h5, h6, h7, h8.mono hFG, h9.mono hFG⟩
theorem DeedsV.upd (h : DeedsV w F A ds) (u : Upd S w w') (d : ∀ k, k < w.heap.size → F k → ¬ S k) : DeedsV w' F A ds := by
  rcases h with h | ⟨b, off, e, hF, hc⟩
  · exact .inl h
  · refine .inr ⟨b, off, e, hF, fun i hi => ?_⟩
    obtain ⟨h1, h2, h3, h4, h5⟩ := hc i hi
    have db := d b (World.block_lt_of_cell? w _ h1) hF
    exact ⟨cell_upd h1 u db, cell_upd h2 u db, cell_upd h3 u db, cell_upd h4 u db, h5.upd u d db⟩
theorem DeedsV.mono (h : DeedsV w F A ds) (hFG : ∀ k, k < w.heap.size → F k → G k) : DeedsV w G A ds := by
  rcases h with h | ⟨b, off, e, hF, hc⟩
  · exact .inl h
  · by_cases hn : ds = []
    · exact .inl hn
    · have h0 : 0 < ds.length := List.length_pos_iff.2 hn
      refine .inr ⟨b, off, e, hFG b (World.block_lt_of_cell? w _ (hc 0 h0).1) hF, fun i hi => ?_⟩
      obtain ⟨h1, h2, h3, h4, h5⟩ := hc i hi
      exact ⟨h1, h2, h3, h4, h5.mono hFG⟩
theorem DeedsV.at_ (h : DeedsV w F A ds) {i : Nat} (hi : i < ds.length) : ∃ b off, A = some ⟨b, off, none⟩ ∧ F b ∧ b < w.heap.size ∧ DeedAt w F b (off + i * 9) ds[i] := by
  rcases h with h | ⟨b, off, e, hF, hc⟩
  · subst h; simp at hi
  · exact ⟨b, off, e, hF, World.block_lt_of_cell? w _ (hc i hi).1, hc i hi⟩
end

theorem cells_Step : Try.prog.cellsOf 34 = 5 := by kernel_rfl
theorem cells_Deed : Try.prog.cellsOf 46 = 9 := by kernel_rfl
theorem cells_i64s : Try.prog.cellsOf 32 = 1 := by kernel_rfl
theorem bytes_Deed : Try.prog.bytesOf 46 = 104 := by kernel_rfl
theorem bytes_int64 : Try.prog.bytesOf 2 = 8 := by kernel_rfl
theorem und_Step : ∃ f0 f1 f2 f3 f4 : Field, Try.prog.underlying 34 = some (.struct #[f0, f1, f2, f3, f4]) ∧ (f0.type = 3 ∧ f0.offset = 0) ∧ (f1.type = 3 ∧ f1.offset = 1) ∧ (f2.type = 3 ∧ f2.offset = 2) ∧ (f3.type = 22 ∧ f3.offset = 3) ∧ (f4.type = 32 ∧ f4.offset = 4) := ⟨_, _, _, _, _, Try.underlying34, ⟨rfl, rfl⟩, ⟨rfl, rfl⟩, ⟨rfl, rfl⟩, ⟨rfl, rfl⟩, ⟨rfl, rfl⟩⟩
theorem und_Deed : ∃ f0 f1 f2 f3 f4 : Field, Try.prog.underlying 46 = some (.struct #[f0, f1, f2, f3, f4]) ∧ (f0.type = 3 ∧ f0.offset = 0) ∧ (f1.type = 3 ∧ f1.offset = 1) ∧ (f2.type = 3 ∧ f2.offset = 2) ∧ (f3.type = 3 ∧ f3.offset = 3) ∧ (f4.type = 34 ∧ f4.offset = 4) := ⟨_, _, _, _, _, Try.underlying46, ⟨rfl, rfl⟩, ⟨rfl, rfl⟩, ⟨rfl, rfl⟩, ⟨rfl, rfl⟩, ⟨rfl, rfl⟩⟩

section
variable {H : Type} {enc : TypeId × Value → H} {w : World} {base : Nat} {sp : Nat → Bool} {held : Bool}

set_option maxRecDepth 100000 in
theorem open_stepT {fuel : Nat} {cs : List Value} {x : DataW H × List MemPlace} (h : DataW.trod enc Try.prog w base sp held fuel 34 cs = some x) (hw : Wt Try.prog 34 x.1) :
    ∃ s VA vc MA mc, cs = [.int .i64 (Stp.l s), .int .i64 s.r, .int .i64 s.why, .slice VA s.vars.length vc, .slice MA s.imms.length mc] ∧ s.vars.length ≤ vc ∧ s.imms.length ≤ mc ∧ Ints w (fun _ => True) VA s.vars ∧ Ints w (fun _ => True) MA s.imms ∧ StpOk s := by
  obtain ⟨f0, f1, f2, f3, f4, hu, ⟨t0, o0⟩, ⟨t1, o1⟩, ⟨t2, o2⟩, ⟨t3, o3⟩, ⟨t4, o4⟩⟩ := und_Step
  obtain ⟨xs, n, _, rfl, hl, hlen, hf⟩ := DataW.trod_struct hu h
  rw [cells_Step] at hl
  match cs, hl with
  | [v0, v1, v2, v3, v4], _ =>
    match xs, hlen with
    | [y0, y1, y2, y3, y4], _ =>
      have g0 := hf 0 f0 rfl
      have g1 := hf 1 f1 rfl
      have g2 := hf 2 f2 rfl
      have g3 := hf 3 f3 rfl
      have g4 := hf 4 f4 rfl
      have w3 := hw.part hu (j := 3) (f := f3) (d := y3.1) rfl rfl
      have w4 := hw.part hu (j := 4) (f := f4) (d := y4.1) rfl rfl
      rw [t0, o0, cells_int] at g0
      rw [t1, o1, cells_int] at g1
      rw [t2, o2, cells_int] at g2
      rw [t3, o3, cells_ints] at g3
      rw [t4, o4, cells_i64s] at g4
      rw [t3] at w3
      rw [t4] at w4
      simp at g0 g1 g2 g3 g4
      obtain ⟨a, e0, i0⟩ := open_intT Try.underlying3 g0
      obtain ⟨b, e1, i1⟩ := open_intT Try.underlying3 g1
      obtain ⟨c, e2, i2⟩ := open_intT Try.underlying3 g2
      obtain ⟨VA, vc, vs, e3, hv1, hv2, _, hv3⟩ := open_intsT Try.underlying22 Try.underlying3 cells_int bytes_int g3 w3
      obtain ⟨MA, mc, ms, e4, hm1, hm2, _, hm3⟩ := open_intsT Try.underlying32 Try.underlying2 cells_int64 bytes_int64 g4 w4
      simp at e0 e1 e2 e3 e4
      subst e0; subst e1; subst e2; subst e3; subst e4
      exact ⟨⟨a, b, c, vs, ms⟩, VA, vc, MA, mc, rfl, hv1, hm1, hv2, hm2, i0, i1, i2, hv3, hm3⟩

set_option maxRecDepth 100000 in
theorem open_deedT {fuel : Nat} {cs : List Value} {x : DataW H × List MemPlace} (h : DataW.trod enc Try.prog w base sp held fuel 46 cs = some x) (hw : Wt Try.prog 46 x.1) :
    ∃ d VA vc MA mc, cs = [.int .i64 (Dd.what d), .int .i64 d.a, .int .i64 d.b, .int .i64 d.op, .int .i64 d.s.l, .int .i64 d.s.r, .int .i64 d.s.why, .slice VA d.s.vars.length vc, .slice MA d.s.imms.length mc] ∧ d.s.vars.length ≤ vc ∧ d.s.imms.length ≤ mc ∧ Ints w (fun _ => True) VA d.s.vars ∧ Ints w (fun _ => True) MA d.s.imms ∧ DdOk d := by
  obtain ⟨f0, f1, f2, f3, f4, hu, ⟨t0, o0⟩, ⟨t1, o1⟩, ⟨t2, o2⟩, ⟨t3, o3⟩, ⟨t4, o4⟩⟩ := und_Deed
  obtain ⟨xs, n, _, rfl, hl, hlen, hf⟩ := DataW.trod_struct hu h
  rw [cells_Deed] at hl
  match cs, hl with
  | [v0, v1, v2, v3, v4, v5, v6, v7, v8], _ =>
    match xs, hlen with
    | [y0, y1, y2, y3, y4], _ =>
      have g0 := hf 0 f0 rfl
      have g1 := hf 1 f1 rfl
      have g2 := hf 2 f2 rfl
      have g3 := hf 3 f3 rfl
      have g4 := hf 4 f4 rfl
      have w4 := hw.part hu (j := 4) (f := f4) (d := y4.1) rfl rfl
      rw [t0, o0, cells_int] at g0
      rw [t1, o1, cells_int] at g1
      rw [t2, o2, cells_int] at g2
      rw [t3, o3, cells_int] at g3
      rw [t4, o4, cells_Step] at g4
      rw [t4] at w4
      simp at g0 g1 g2 g3 g4
      obtain ⟨a, e0, i0⟩ := open_intT Try.underlying3 g0
      obtain ⟨b, e1, i1⟩ := open_intT Try.underlying3 g1
      obtain ⟨c, e2, i2⟩ := open_intT Try.underlying3 g2
      obtain ⟨o, e3, i3⟩ := open_intT Try.underlying3 g3
      obtain ⟨s, VA, vc, MA, mc, e4, q1, q2, q3, q4, q5⟩ := open_stepT g4 w4
      simp at e0 e1 e2 e3 e4
      obtain ⟨rfl, rfl, rfl, rfl, rfl⟩ := e4
      subst e0; subst e1; subst e2; subst e3
      exact ⟨⟨a, b, c, o, s⟩, VA, vc, MA, mc, rfl, q1, q2, q3, q4, i0, i1, i2, i3, q5⟩

set_option maxRecDepth 100000 in
theorem open_deedsV {r : Reach} {b0 : Nat} {v : Value} {d : DataW H} {ps : List MemPlace} (hval : Value.okWide Try.prog w r b0 43 v) (hd : DataW.Trod enc Try.prog w base sp held 43 v d ps) (hw : Wt Try.prog 43 d) :
    ∃ A c L, v = .slice A (List.length L) c ∧ L.length ≤ c ∧ DeedsV w (fun _ => True) A L ∧ (∀ x ∈ L, DdOk x) ∧ 104 * L.length ≤ 140737488355328 := by
  obtain ⟨a0, len, cap, rfl⟩ := okWide_slice Try.underlying43 hval
  obtain ⟨fuel, hf⟩ := hd
  rcases Go.Deep.open_slice Try.underlying43 hf with ⟨hcs, hx⟩ | ⟨a, len', cap', m, n, D, Pl, hcs, _, hl, hm, hmm, hx, hcell⟩
  · simp [Value.cells] at hcs
    obtain ⟨rfl, rfl, rfl⟩ := hcs
    exact ⟨none, 0, [], rfl, by simp, .inl rfl, by simp, by simp⟩
  · simp [Value.cells] at hcs
    obtain ⟨rfl, rfl, rfl⟩ := hcs
    simp only [Prod.mk.injEq] at hx
    obtain ⟨rfl, rfl⟩ := hx
    have hlm : len ≤ m := by rw [hmm]; split <;> omega
    have hwt := hw.head Try.underlying43
    rw [bytes_Deed] at hwt
    simp only [List.length_map, List.length_range, reachBytes] at hwt
    have each : ∀ i, i < len → ∃ x : Dd, ∃ VA vc MA mc, (∀ j, j < 9 → w.cell? ((a.add (i * 9)).add j) = [Value.int .i64 x.what, .int .i64 x.a, .int .i64 x.b, .int .i64 x.op, .int .i64 x.s.l, .int .i64 x.s.r, .int .i64 x.s.why, .slice VA x.s.vars.length vc, .slice MA x.s.imms.length mc][j]?) ∧ x.s.vars.length ≤ vc ∧ x.s.imms.length ≤ mc ∧ Ints w (fun _ => True) VA x.s.vars ∧ Ints w (fun _ => True) MA x.s.imms ∧ DdOk x := fun i hi => by
      obtain ⟨cs', h1, h2⟩ := hcell i (by omega)
      rw [cells_Deed] at h1
      obtain ⟨_, _, h3⟩ := World.cells?_some h1
      obtain ⟨x, VA, vc, MA, mc, rfl, h4⟩ := open_deedT h2 (hw.elem Try.underlying43 (List.mem_map.2 ⟨i, List.mem_range.2 hi, rfl⟩))
      exact ⟨x, VA, vc, MA, mc, h3, h4⟩
    obtain ⟨L, hL, hp⟩ := list_of len each
    subst hL
    refine ⟨some a, cap, L, rfl, hl, ?_, fun x hx => ?_, by omega⟩
    · by_cases h0 : L.length = 0
      · exact .inl (List.eq_nil_of_length_eq_zero h0)
      · obtain ⟨b, off, spot⟩ := a
        obtain ⟨VA, vc, MA, mc, hh, _⟩ := hp 0 (by omega)
        have h1 := hh 0 (by omega)
        have hspot : spot = none := spot_none (by simpa [Addr.add] using h1)
        subst hspot
        refine .inr ⟨b, off, rfl, trivial, fun i hi => ?_⟩
        obtain ⟨VA, vc, MA, mc, hh, q1, q2, q3, q4, _⟩ := hp i hi
        have c0 := hh 0 (by omega)
        have c1 := hh 1 (by omega)
        have c2 := hh 2 (by omega)
        have c3 := hh 3 (by omega)
        have c4 := hh 4 (by omega)
        have c5 := hh 5 (by omega)
        have c6 := hh 6 (by omega)
        have c7 := hh 7 (by omega)
        have c8 := hh 8 (by omega)
        simp only [Addr.add_lit] at c0 c1 c2 c3 c4 c5 c6 c7 c8
        exact ⟨c0, c1, c2, c3, c4, c5, c6, VA, vc, MA, mc, c7, c8, q1, q2, q3, q4⟩
    · obtain ⟨i, hi, rfl⟩ := List.mem_iff_getElem.1 hx
      obtain ⟨VA, vc, MA, mc, hh, q1, q2, q3, q4, q5⟩ := hp i hi
      exact q5
end
end Go.Proofs.Ytigambcefdeaoaa

namespace Go.Proofs.Ytigambcefdeaoaa
open Go.RowKit

def dOp (d : Dd) : Int := 4 + d.op % 19
def dKids (d : Dd) (n : Int) (j : Nat) : List Int := (List.range j).map fun (i : Nat) => (d.a.tdiv (1 + 5 * (i : Int))) % (n + 1)
def dNode (d : Dd) (n : Int) : Nd :=
  if d.op % 13 = 0 then ⟨d.b % 40, d.a % 5, dKids d n (arityF (dOp d)).1.toNat⟩ else ⟨dOp d, 0, dKids d n (arityF (dOp d)).1.toNat⟩
theorem dKids_succ (d : Dd) (n : Int) (j : Nat) : dKids d n (j + 1) = dKids d n j ++ [(d.a.tdiv (1 + 5 * (j : Int))) % (n + 1)] := by
  unfold dKids
  rw [List.range_succ, List.map_append]
  rfl
theorem dKids_len (d : Dd) (n : Int) (j : Nat) : (dKids d n j).length = j := by simp [dKids]
theorem dOp_range (d : Dd) : 4 ≤ dOp d ∧ dOp d ≤ 22 := by
  have h1 := Int.emod_nonneg d.op (show (19 : Int) ≠ 0 by omega)
  have h2 := Int.emod_lt_of_pos d.op (show (0 : Int) < 19 by omega)
  unfold dOp; omega
theorem dArity (d : Dd) : 1 ≤ (arityF (dOp d)).1 ∧ (arityF (dOp d)).1 ≤ 3 := by
  have := dOp_range d
  unfold arityF
  (repeat' split) <;> first | omega | (exfalso; omega)
theorem dNode_kids (d : Dd) (n : Int) : (dNode d n).kids = dKids d n (arityF (dOp d)).1.toNat := by unfold dNode; split <;> rfl
theorem dNode_ok (d : Dd) (n : Int) : NdOk (dNode d n) := by
  have := dOp_range d
  have ha := dArity d
  have h1 := Int.emod_nonneg d.b (show (40 : Int) ≠ 0 by omega)
  have h2 := Int.emod_lt_of_pos d.b (show (0 : Int) < 40 by omega)
  have h3 := Int.emod_nonneg d.a (show (5 : Int) ≠ 0 by omega)
  have h4 := Int.emod_lt_of_pos d.a (show (0 : Int) < 5 by omega)
  refine ⟨?_, ?_, ?_⟩
  · unfold dNode; split <;> (unfold I64; dsimp only; omega)
  · unfold dNode; split <;> (unfold I64; dsimp only; omega)
  · rw [dNode_kids, dKids_len]; omega
theorem quo_i64 {a : Int} (h : I64 a) (j : Nat) : I64 (a.tdiv (1 + 5 * (j : Int))) := by
  rcases Nat.eq_zero_or_pos j with rfl | hj
  · simpa using h
  · have := I64.tdiv h (1 + 5 * j) (by omega)
    rwa [show ((1 + 5 * j : Nat) : Int) = 1 + 5 * (j : Int) by omega] at this

def deedVal (d : Dd) (VA MA : Option Addr) (vc mc : Nat) : Value := .agg #[.int .i64 d.what, .int .i64 d.a, .int .i64 d.b, .int .i64 d.op, .int .i64 d.s.l, .int .i64 d.s.r, .int .i64 d.s.why, .slice VA d.s.vars.length vc, .slice MA d.s.imms.length mc]

set_option maxRecDepth 100000 in
set_option maxHeartbeats 4000000 in
theorem deedNode_c (w : World) (d : Dd) (VA MA : Option Addr) (vc mc : Nat) (n : Nat) (hn : n ≤ 100000) (hd : DdOk d) :
    Calls Try.prog 27 #[deedVal d VA MA vc mc, .int .i64 n] w fun e w' => ∃ KB kd, e = .returned (.agg #[.int .i64 (dNode d n).op, .int .i64 (dNode d n).imm, .slice KB (dNode d n).kids.length kd]) ∧ Own w' 3 1 KB (dNode d n).kids.length kd (icells (dNode d n).kids) ∧ (∀ k, At KB k → w.heap.size ≤ k) ∧ Upd Non w w' := by
  obtain ⟨hd0, hda, hdb, hdo, _⟩ := hd
  have HQ := Lib.hid (fun j => quo_i64 hda j)
  have ho := dOp_range d
  have har := dArity d
  unfold deedVal
  obtain ⟨W, HW⟩ := nm ((w.alloc (.cells #[.int .i64 d.what, .int .i64 d.a, .int .i64 d.b, .int .i64 d.op, .int .i64 d.s.l, .int .i64 d.s.r, .int .i64 d.s.why, .slice VA d.s.vars.length vc, .slice MA d.s.imms.length mc] 46)).alloc (.cells #[.int .i64 0, .int .i64 0, .slice none 0 0] 24))
  have hU : Upd Non w W := by rw [← HW.out]; exact (Upd.refl.alloc _).alloc _
  have bd : Blk W w.heap.size 46 #[.int .i64 d.what, .int .i64 d.a, .int .i64 d.b, .int .i64 d.op, .int .i64 d.s.l, .int .i64 d.s.r, .int .i64 d.s.why, .slice VA d.s.vars.length vc, .slice MA d.s.imms.length mc] := by rw [← HW.out]; exact (Blk.new w _ _).alloc _
  have br : Blk W (w.heap.size + 1) 24 #[.int .i64 0, .int .i64 0, .slice none 0 0] := by rw [← HW.out]; exact Blk.new' (by simp)
  have hsz : W.heap.size = w.heap.size + 1 + 1 := by rw [← HW.out]; simp
  have e0 := HW.out
  have d1 := bd.cell 1
  have d2 := bd.cell 2
  have d3 := bd.cell 3
  have CP := Lib.hid (fun (z m : Int) (W : World) (h : 0 < m) (h2 : m ≤ 4611686018427387904) => pick_c z m W h h2)
  have o1 := Int.emod_nonneg d.op (show (19 : Int) ≠ 0 by omega)
  have o2 := Int.emod_lt_of_pos d.op (show (0 : Int) < 19 by omega)
  have HOP : Hid (4 + d.op % 19 = dOp d) := rfl
  go_enter Try.func27, Try.ntmps27
  go_wp2_with fail
  refine (CP.out d.op 19 W (by omega) (by omega)).mono ?_
  rintro e w1 ⟨rfl, rfl⟩
  have h4 : (4 : Int) + d.op % 19 = dOp d := HOP.out
  generalize d.op % 19 = y19 at *
  obtain ⟨op, Hop⟩ := nm (dOp d)
  rw [Hop.out] at h4 ho har
  have hy : y19 = op - 4 := by omega
  subst hy
  have e4 : (4 : Int) + (op - 4) = op := by omega
  clear h4 HOP
  obtain ⟨W2, HW2⟩ := nm (W.alloc (.cells #[.int .i64 op, .int .i64 0, .slice none 0 0] 24))
  have hU2 : Upd Non W W2 := by rw [← HW2.out]; exact Upd.refl.alloc _
  have bx : Blk W2 (w.heap.size + 1 + 1) 24 #[.int .i64 op, .int .i64 0, .slice none 0 0] := by rw [← HW2.out]; exact Blk.new' hsz.symm
  have HB2 : Hid (W2.heap.size = w.heap.size + 1 + 1 + 1) := by show _ = _; rw [← HW2.out]; simp [hsz]
  have bd2 := bd.upd hU2 (fun f => f)
  have br2 := br.upd hU2 (fun f => f)
  have HSZ := Lib.hid hsz
  have CA := Lib.hid (arity_c op W2)
  obtain ⟨ar, HK⟩ := Int.eq_ofNat_of_zero_le (show 0 ≤ (arityF op).1 by omega)
  have hK3 : ar ≤ 3 := by omega
  rw [HK] at CA
  clear bd br
  go_wp2_with fail
  rw [HW2.out]
  refine CA.out.mono ?_
  rintro e W2' ⟨rfl, rfl⟩
  clear e0 e4 CA hsz
  go_wp2_with fail
  go_loopg [8] ar (fun g i wr => ∃ (j c : Nat) (A : Option Addr), Hid (g = ar - j) ∧ j ≤ ar ∧ i = .int .i64 j ∧ Blk wr (w.heap.size + 1 + 1) 24 #[.int .i64 op, .int .i64 0, .slice A j c] ∧ Own wr 3 1 A j c (icells (dKids d n j)) ∧ Hid (∀ q, At A q → w.heap.size + 1 + 1 < q) ∧ Upd (fun q => q = w.heap.size + 1 + 1) W2 wr)
  case atStart => exact ⟨0, 0, none, rfl, by omega, rfl, bx, Own.none_, fun q hq => (At.none_ hq).elim, Upd.refl⟩
  case round =>
    obtain ⟨j, c, A, Hg, hj, rfl, hb, ho', HA, hu⟩ := hrel
    have bdr := bd2.upd hu (by omega)
    have hszr : w.heap.size + 1 + 1 < wr.heap.size := hb.lt
    by_cases hlt : j < ar
    · go_upto_block 1 with fail
      go_cut [] (fun wx => ∃ (c : Nat) (A : Option Addr), Blk wx (w.heap.size + 1 + 1) 24 #[.int .i64 op, .int .i64 0, .slice A (j + 1) c] ∧ Own wx 3 1 A (j + 1) c (icells (dKids d n (j + 1))) ∧ Hid (∀ q, At A q → w.heap.size + 1 + 1 < q) ∧ Upd (fun q => q = w.heap.size + 1 + 1) W2 wx)
      case first =>
        have HD := Lib.hid (dKids_succ d n j)
        have hq := HQ.out j
        obtain ⟨z, Hz⟩ := nm (d.a.tdiv (1 + 5 * (j : Int)))
        rw [Hz.out] at HD hq
        have s1 : wr.drew.cell? ⟨w.heap.size, 1, none⟩ = some (.int .i64 d.a) := bdr.cell 1
        have c2 : wr.drew.cell? ⟨w.heap.size + 1 + 1, 2, none⟩ = some (.slice A j c) := hb.cell 2
        have f2 := hb.frozen 2
        have v0 : IntKind.i64.wrap (5 * (j : Int)) = 5 * (j : Int) := IntWalk.i64_in _ (by omega)
        have v1 : IntKind.i64.wrap (1 + 5 * (j : Int)) = 1 + 5 * (j : Int) := IntWalk.i64_in _ (by omega)
        have v2 : IntKind.i64.wrap (d.a.tdiv (1 + 5 * (j : Int))) = z := by rw [Hz.out]; unfold I64 at hq; exact IntWalk.i64_in _ (by omega)
        have v3 : IntKind.i64.wrap ((n : Int) + 1) = (n : Int) + 1 := IntWalk.i64_in _ (by omega)
        have v4 : ¬ ((1 : Int) + 5 * (j : Int) = 0) := by omega
        clear hq
        go_wp2_with fail
        refine wp_region_held_drew (S := fun w' => w'.cell? ⟨w.heap.size, 1, none⟩ = some (.int .i64 d.a)) (by kernel_rfl) s1 (fun hHeld => ?_)
        refine wpAnyH_take (i := 0) (v := ?_) rfl (by kernel_rfl) (by kernel_rfl) (by kernel_rfl) (fun _ _ _ h => h) (Or.inl ⟨by rfl, ?_⟩) (by assumption) ?_
        rotate_left
        · intro w hSw; (try dsimp only at hSw); go_simp; try with_reducible rfl
        try simp only [put_y]
        try simp only [Act.put]
        try simp only [put_z]
        refine wpAnyH_take (i := 2) (v := ?_) rfl (by kernel_rfl) (by kernel_rfl) (by kernel_rfl) (fun _ _ _ h => h) (Or.inl ⟨by rfl, ?_⟩) (by assumption) ?_
        rotate_left
        · intro w hSw; (try dsimp only at hSw); go_simp; try with_reducible rfl
        try simp only [put_y]
        try simp only [Act.put]
        try simp only [put_z]
        refine wpAnyH_take (i := 3) (v := ?_) rfl (by kernel_rfl) (by kernel_rfl) (by kernel_rfl) (fun _ _ _ h => h) (Or.inl ⟨by rfl, ?_⟩) (by assumption) ?_
        rotate_left
        · intro w hSw; (try dsimp only at hSw); go_simp; try with_reducible rfl
        try simp only [put_y]
        try simp only [Act.put]
        try simp only [put_z]
        refine wpAnyH_take (i := 4) (v := ?_) rfl (by kernel_rfl) (by kernel_rfl) (by kernel_rfl) (fun _ _ _ h => h) (Or.inl ⟨by rfl, ?_⟩) (by assumption) ?_
        rotate_left
        · intro w hSw; (try dsimp only at hSw); go_simp; try with_reducible rfl
        try simp only [put_y]
        try simp only [Act.put]
        try simp only [put_z]
        refine wpAnyH_take (i := 5) (v := ?_) rfl (by kernel_rfl) (by kernel_rfl) (by kernel_rfl) (fun _ _ _ h => h) (Or.inl ⟨by rfl, ?_⟩) (by assumption) ?_
        rotate_left
        · intro w hSw; (try dsimp only at hSw); go_simp; try with_reducible rfl
        try simp only [put_y]
        try simp only [Act.put]
        try simp only [put_z]
        refine wpAnyH_take (i := 6) (v := ?_) rfl (by kernel_rfl) (by kernel_rfl) (by kernel_rfl) (fun _ _ _ h => h) (Or.inl ⟨by rfl, ?_⟩) (by assumption) ?_
        rotate_left
        · intro w hSw; (try dsimp only at hSw); go_simp; try with_reducible rfl
        try simp only [put_y]
        try simp only [Act.put]
        try simp only [put_z]
        refine wpAnyH_take (i := 7) (v := ?_) rfl (by kernel_rfl) (by kernel_rfl) (by kernel_rfl) (fun _ _ _ h => h) (Or.inl ⟨by rfl, ?_⟩) (by assumption) ?_
        rotate_left
        · intro w hSw; (try dsimp only at hSw); go_simp; try with_reducible rfl
        try simp only [put_y]
        try simp only [Act.put]
        try simp only [put_z]
        refine wpAnyH_take (i := 8) (v := ?_) rfl (by kernel_rfl) (by kernel_rfl) (by kernel_rfl) (fun _ _ _ h => h) (Or.inl ⟨by rfl, ?_⟩) (by assumption) ?_
        rotate_left
        · intro w hSw; (try dsimp only at hSw); go_simp; try with_reducible rfl
        try simp only [put_y]
        try simp only [Act.put]
        try simp only [put_z]
        refine wpAnyH_take (i := 9) (v := ?_) rfl (by kernel_rfl) (by kernel_rfl) (by kernel_rfl) (fun _ _ _ h => h) (Or.inl ⟨by rfl, ?_⟩) (by assumption) ?_
        rotate_left
        · intro w hSw; (try dsimp only at hSw); go_simp; try with_reducible rfl
        try simp only [put_y]
        try simp only [Act.put]
        try simp only [put_z]
        refine wpAnyH_takeC (i := 10) (v := ?v1) rfl (by kernel_rfl) (by kernel_rfl) (by kernel_rfl) (fun _ _ _ h => h) ⟨by rfl, ?f1, ?a1, ?r1, ?c1⟩ (by assumption) ?m1
        case r1 => intro w; go_simp; constructor <;> with_reducible rfl
        case c1 => intro W hSw; refine (CP.out z ((n : Int) + 1) W (by omega) (by omega)).mono ?_; rintro e w' ⟨rfl, rfl⟩; constructor <;> with_reducible rfl
        try simp only [put_y]
        try simp only [Act.put]
        try simp only [put_z]
        have hq : z % ((n : Int) + 1) = z % ((n : Int) + 1) := rfl
        obtain ⟨x, Hx⟩ := nm (z % ((n : Int) + 1))
        rw [Hx.out] at HD ⊢
        have ho0 : Own wr.drew 3 1 A j c (icells (dKids d n j)) := ho'
        have s0 : wr.cell? ⟨w.heap.size, 1, none⟩ = some (.int .i64 d.a) := bdr.cell 1
        have sA : (wr.alloc (.cells #[.int .i64 x] 3)).drew.cell? ⟨w.heap.size, 1, none⟩ = some (.int .i64 d.a) := cell_upd s0 ((Upd.refl.alloc _ (S := Non)).drew) (fun f => f)
        have cA : (wr.alloc (.cells #[.int .i64 x] 3)).drew.cell? ⟨w.heap.size + 1 + 1, 2, none⟩ = some (.slice A j c) := cell_upd (show wr.cell? ⟨w.heap.size + 1 + 1, 2, none⟩ = some (.slice A j c) from hb.cell 2) ((Upd.refl.alloc _ (S := Non)).drew) (fun f => f)
        clear v0 v1 v2 v3 v4 hq
        refine wpAnyH_ready (rs := [1, 11]) (by kernel_rfl) (by simp) ?_
        refine AllReadyH.cons rfl (fun K hK => ?_) (AllReadyH.cons rfl (fun K hK => ?_) AllReadyH.nil)
        · go_simp
          refine hK.out _ _ ?_ (fun hHeld => ?_)
          · exact s1
          clear hK K
          try simp only [put_y]
          try simp only [Act.put]
          try simp only [put_z]
          refine wpAnyH_ready (rs := [11]) (by kernel_rfl) (by simp) ?_
          refine AllReadyH.cons rfl (fun K hK => ?_) AllReadyH.nil
          go_simp
          refine hK.out _ _ ?_ (fun hHeld => ?_)
          · exact sA
          clear hK K
          try simp only [put_y]
          try simp only [Act.put]
          try simp only [put_z]
          refine wpAnyH_ready (rs := [12]) (by kernel_rfl) (by simp) ?_
          refine AllReadyH.cons rfl (fun K hK => ?_) AllReadyH.nil
          refine step_app rfl rfl T_ints' (by rfl) (ho0.alloc _) (by rfl) (Sl.new _ _ _) rfl (by simp [Value.oneCell']) (by simp only [maxLen]; omega) (by omega) ?_
          intro A3 c3 w3 ho3 hu3 hat3
          have hA3 : ∀ q, At A3 q → w.heap.size + 1 + 1 < q := fun q hq => by
            rcases hat3 q hq with h | h
            · exact HA.out q h
            · simp at h; omega
          have uW : Upd (At A) wr w3 := ((Upd.refl (S := At A)).drew.alloc _).trans hu3 (fun _ _ h => h)
          have hb3 := hb.upd uW (fun h => by have := HA.out _ h; omega)
          have g1 := cell_upd (bdr.cell 1) uW (fun h => by have := HA.out _ h; omega)
          have f3 := hb3.frozen 2
          have c3' := hb3.cell 2
          refine hK.out _ _ ?_ (fun hHeld => ?_)
          · exact g1
          clear hK K
          try simp only [put_y]
          try simp only [Act.put]
          try simp only [put_z]
          refine wpAnyH_take (i := 13) (v := ?_) rfl (by kernel_rfl) (by kernel_rfl) (by kernel_rfl) (fun _ _ _ h => h) (Or.inl ⟨by rfl, ?_⟩) (by assumption) ?_
          rotate_left
          · intro w hSw; (try dsimp only at hSw); go_simp; try with_reducible rfl
          try simp only [put_y]
          try simp only [Act.put]
          try simp only [put_z]
          refine wpAnyH_ready (rs := [14]) (by kernel_rfl) (by simp) ?_
          refine AllReadyH.cons rfl (fun K hK => ?_) AllReadyH.nil
          go_simp
          have u4 : Upd (fun q => q = w.heap.size + 1 + 1) w3 (w3.setCell ⟨w.heap.size + 1 + 1, 2, none⟩ (.slice A3 (j + 1) c3)) := updCell _ _ _ _
          refine hK.out _ _ ?_ (fun hHeld => ?_)
          · exact cell_upd g1 u4 (by omega)
          clear hK K
          try simp only [put_y]
          try simp only [Act.put]
          try simp only [put_z]
          refine wpAnyH_done (by kernel_rfl) ?_ _
          go_wp2_with fail
          go_meet
          refine ⟨c3, A3, ?_, ?_, hA3, ?_⟩
          · have := hb3.set_ 2 (.slice A3 (j + 1) c3)
            simpa using this
          · rw [HD.out, icells_snoc]
            exact ho3.upd u4 (fun k hk e => by have := hA3 k hk; omega)
          · exact (hu.trans uW (fun i hi h => by have := HA.out i h; have := HB2.out; omega)).trans u4 (fun _ _ h => h)
        · go_simp
          refine hK.out _ _ ?_ (fun hHeld => ?_)
          · exact sA
          clear hK K
          try simp only [put_y]
          try simp only [Act.put]
          try simp only [put_z]
          refine wpAnyH_ready (rs := [1]) (by kernel_rfl) (by simp) ?_
          refine AllReadyH.cons rfl (fun K hK => ?_) AllReadyH.nil
          go_simp
          refine hK.out _ _ ?_ (fun hHeld => ?_)
          · exact sA
          clear hK K
          try simp only [put_y]
          try simp only [Act.put]
          try simp only [put_z]
          refine wpAnyH_ready (rs := [12]) (by kernel_rfl) (by simp) ?_
          refine AllReadyH.cons rfl (fun K hK => ?_) AllReadyH.nil
          refine step_app rfl rfl T_ints' (by rfl) (ho0.alloc _) (by rfl) (Sl.new _ _ _) rfl (by simp [Value.oneCell']) (by simp only [maxLen]; omega) (by omega) ?_
          intro A3 c3 w3 ho3 hu3 hat3
          have hA3 : ∀ q, At A3 q → w.heap.size + 1 + 1 < q := fun q hq => by
            rcases hat3 q hq with h | h
            · exact HA.out q h
            · simp at h; omega
          have uW : Upd (At A) wr w3 := ((Upd.refl (S := At A)).drew.alloc _).trans hu3 (fun _ _ h => h)
          have hb3 := hb.upd uW (fun h => by have := HA.out _ h; omega)
          have g1 := cell_upd (bdr.cell 1) uW (fun h => by have := HA.out _ h; omega)
          have f3 := hb3.frozen 2
          have c3' := hb3.cell 2
          refine hK.out _ _ ?_ (fun hHeld => ?_)
          · exact g1
          clear hK K
          try simp only [put_y]
          try simp only [Act.put]
          try simp only [put_z]
          refine wpAnyH_take (i := 13) (v := ?_) rfl (by kernel_rfl) (by kernel_rfl) (by kernel_rfl) (fun _ _ _ h => h) (Or.inl ⟨by rfl, ?_⟩) (by assumption) ?_
          rotate_left
          · intro w hSw; (try dsimp only at hSw); go_simp; try with_reducible rfl
          try simp only [put_y]
          try simp only [Act.put]
          try simp only [put_z]
          refine wpAnyH_ready (rs := [14]) (by kernel_rfl) (by simp) ?_
          refine AllReadyH.cons rfl (fun K hK => ?_) AllReadyH.nil
          go_simp
          have u4 : Upd (fun q => q = w.heap.size + 1 + 1) w3 (w3.setCell ⟨w.heap.size + 1 + 1, 2, none⟩ (.slice A3 (j + 1) c3)) := updCell _ _ _ _
          refine hK.out _ _ ?_ (fun hHeld => ?_)
          · exact cell_upd g1 u4 (by omega)
          clear hK K
          try simp only [put_y]
          try simp only [Act.put]
          try simp only [put_z]
          refine wpAnyH_done (by kernel_rfl) ?_ _
          go_wp2_with fail
          go_meet
          refine ⟨c3, A3, ?_, ?_, hA3, ?_⟩
          · have := hb3.set_ 2 (.slice A3 (j + 1) c3)
            simpa using this
          · rw [HD.out, icells_snoc]
            exact ho3.upd u4 (fun k hk e => by have := hA3 k hk; omega)
          · exact (hu.trans uW (fun i hi h => by have := HA.out i h; have := HB2.out; omega)).trans u4 (fun _ _ h => h)
      case rest =>
        obtain ⟨c3, A3, hb3, ho3, HA3, hu3⟩ := hcut
        go_wp2_with fail
        go_roundg (ar - (j + 1))
        case measure => rw [Hg.out]; omega
        case rel => exact ⟨j + 1, c3, A3, rfl, by omega, by go_num, hb3, ho3, HA3, hu3⟩
    · obtain rfl : ar = j := by omega
      have ha2 : (arityF (dOp d)).1.toNat = ar := by rw [Hop.out, HK]; simp
      have br0 := br2.upd hu (by omega)
      have x0 := hb.cell 0
      have x1 := hb.cell 1
      have x2 := hb.cell 2
      have y1 := hb.frozen 0
      have y2 := hb.frozen 1
      have y3 := hb.frozen 2
      have z0 := br0.cell 0
      have z1 := br0.cell 1
      have z2 := br0.cell 2
      have z3 := br0.frozen 0
      have z4 := br0.frozen 1
      have z5 := br0.frozen 2
      have D1 := bdr.cell 1
      have D2 := bdr.cell 2
      have D3 := bdr.cell 3
      have k1 := Int.emod_nonneg d.op (show (13 : Int) ≠ 0 by omega)
      obtain ⟨K13, HK13⟩ := nm (d.op % 13)
      by_cases h13 : d.op % 13 = 0
      · have HN : Hid (dNode d n = ⟨d.b % 40, d.a % 5, dKids d n ar⟩) := by show _ = _; unfold dNode; rw [if_pos h13, ha2]
        have hK0 : K13 = 0 := by rw [← HK13.out]; exact h13
        have CP13 := Lib.hid (CP.out d.op 13 wr (by omega) (by omega))
        rw [HK13.out, hK0] at CP13
        obtain ⟨b40, Hb40⟩ := nm (d.b % 40)
        obtain ⟨a5, Ha5⟩ := nm (d.a % 5)
        rw [Hb40.out, Ha5.out] at HN
        have s1 : wr.drew.cell? ⟨w.heap.size, 1, none⟩ = some (.int .i64 d.a) := D1
        have s2 : wr.drew.cell? ⟨w.heap.size, 2, none⟩ = some (.int .i64 d.b) := D2
        have s3 : wr.drew.cell? ⟨w.heap.size + 1 + 1, 2, none⟩ = some (.slice A ar c) := x2
        clear h13 hK0
        go_wp2_with fail
        refine CP13.out.mono ?_
        rintro e wr' ⟨rfl, rfl⟩
        go_wp2_with fail
        refine wp_region_held_drew (S := fun w' => w'.cell? ⟨w.heap.size, 1, none⟩ = some (.int .i64 d.a) ∧ w'.cell? ⟨w.heap.size, 2, none⟩ = some (.int .i64 d.b) ∧ w'.cell? ⟨w.heap.size + 1 + 1, 2, none⟩ = some (.slice A ar c)) (by kernel_rfl) ⟨s1, s2, s3⟩ (fun hHeld => ?_)
        refine wpAnyH_take (i := 0) (v := ?_) rfl (by kernel_rfl) (by kernel_rfl) (by kernel_rfl) (fun _ _ _ h => h) (Or.inl ⟨by rfl, ?_⟩) (by assumption) ?_
        rotate_left
        · intro w hSw; (try dsimp only at hSw); go_simp; try with_reducible rfl
        try simp only [put_y]
        try simp only [Act.put]
        try simp only [put_z]
        refine wpAnyH_take (i := 1) (v := ?_) rfl (by kernel_rfl) (by kernel_rfl) (by kernel_rfl) (fun _ _ _ h => h) (Or.inl ⟨by rfl, ?_⟩) (by assumption) ?_
        rotate_left
        · intro w hSw; (try dsimp only at hSw); go_simp; try with_reducible rfl
        try simp only [put_y]
        try simp only [Act.put]
        try simp only [put_z]
        refine wpAnyH_takeC (i := 2) (v := ?v2) rfl (by kernel_rfl) (by kernel_rfl) (by kernel_rfl) (fun _ _ _ h => h) ⟨by rfl, ?f2, ?a2, ?r2, ?c2⟩ (by assumption) ?m2
        case r2 => intro w; go_simp; constructor <;> with_reducible rfl
        case c2 => intro W hSw; refine (CP.out d.b 40 W (by omega) (by omega)).mono ?_; rintro e w' ⟨rfl, rfl⟩; constructor <;> with_reducible rfl
        try simp only [put_y]
        try simp only [Act.put]
        try simp only [put_z]
        refine wpAnyH_take (i := 3) (v := ?_) rfl (by kernel_rfl) (by kernel_rfl) (by kernel_rfl) (fun _ _ _ h => h) (Or.inl ⟨by rfl, ?_⟩) (by assumption) ?_
        rotate_left
        · intro w hSw; (try dsimp only at hSw); go_simp; try with_reducible rfl
        try simp only [put_y]
        try simp only [Act.put]
        try simp only [put_z]
        refine wpAnyH_take (i := 4) (v := ?_) rfl (by kernel_rfl) (by kernel_rfl) (by kernel_rfl) (fun _ _ _ h => h) (Or.inl ⟨by rfl, ?_⟩) (by assumption) ?_
        rotate_left
        · intro w hSw; (try dsimp only at hSw); go_simp; try with_reducible rfl
        try simp only [put_y]
        try simp only [Act.put]
        try simp only [put_z]
        refine wpAnyH_takeC (i := 5) (v := ?v3) rfl (by kernel_rfl) (by kernel_rfl) (by kernel_rfl) (fun _ _ _ h => h) ⟨by rfl, ?f3, ?a3, ?r3, ?c3⟩ (by assumption) ?m3
        case r3 => intro w; go_simp; constructor <;> with_reducible rfl
        case c3 => intro W hSw; refine (CP.out d.a 5 W (by omega) (by omega)).mono ?_; rintro e w' ⟨rfl, rfl⟩; constructor <;> with_reducible rfl
        try simp only [put_y]
        try simp only [Act.put]
        try simp only [put_z]
        refine wpAnyH_take (i := 6) (v := ?_) rfl (by kernel_rfl) (by kernel_rfl) (by kernel_rfl) (fun _ _ _ h => h) (Or.inl ⟨by rfl, ?_⟩) (by assumption) ?_
        rotate_left
        · intro w hSw; (try dsimp only at hSw); go_simp; try with_reducible rfl
        try simp only [put_y]
        try simp only [Act.put]
        try simp only [put_z]
        refine wpAnyH_take (i := 7) (v := ?_) rfl (by kernel_rfl) (by kernel_rfl) (by kernel_rfl) (fun _ _ _ h => h) (Or.inl ⟨by rfl, ?_⟩) (by assumption) ?_
        rotate_left
        · intro w hSw; (try dsimp only at hSw); go_simp; try with_reducible rfl
        try simp only [put_y]
        try simp only [Act.put]
        try simp only [put_z]
        rw [Hb40.out, Ha5.out]
        refine wpAnyH_take (i := 8) (v := ?_) rfl (by kernel_rfl) (by kernel_rfl) (by kernel_rfl) (fun _ _ _ h => h) (Or.inl ⟨by rfl, ?_⟩) (by assumption) ?_
        rotate_left
        · intro w hSw; (try dsimp only at hSw); go_simp; try with_reducible rfl
        try simp only [put_y]
        try simp only [Act.put]
        try simp only [put_z]
        refine wpAnyH_ready (rs := [9]) (by kernel_rfl) (by simp) ?_
        refine AllReadyH.cons rfl (fun K hK => ?_) AllReadyH.nil
        go_simp
        obtain ⟨w5, H5⟩ := nm (((wr.setCell ⟨w.heap.size + 1 + 1, 0, none⟩ (.int .i64 b40)).setCell ⟨w.heap.size + 1 + 1, 1, none⟩ (.int .i64 a5)).setCell ⟨w.heap.size + 1 + 1, 2, none⟩ (.slice A ar c))
        have hx5 : Blk w5 (w.heap.size + 1 + 1) 24 #[.int .i64 b40, .int .i64 a5, .slice A ar c] := by
          rw [← H5.out]
          exact ((hb.set_ 0 _).set_ 1 _).set_ 2 _
        have u5 : Upd (fun q => q = w.heap.size + 1 + 1) wr w5 := by
          rw [← H5.out]
          exact (((Upd.refl (S := fun q => q = w.heap.size + 1 + 1)).setCell (p := ⟨w.heap.size + 1 + 1, 0, none⟩) (.inl rfl) _).setCell (p := ⟨w.heap.size + 1 + 1, 1, none⟩) (.inl rfl) _).setCell (p := ⟨w.heap.size + 1 + 1, 2, none⟩) (.inl rfl) _
        rw [H5.out]
        refine hK.out _ _ ?_ (fun hHeld => ?_)
        · exact ⟨cell_upd (show wr.cell? ⟨w.heap.size, 1, none⟩ = some (.int .i64 d.a) from D1) u5.drew (by omega), cell_upd (show wr.cell? ⟨w.heap.size, 2, none⟩ = some (.int .i64 d.b) from D2) u5.drew (by omega), hx5.cell 2⟩
        clear hK K
        try simp only [put_y]
        try simp only [Act.put]
        try simp only [put_z]
        refine wpAnyH_done (by kernel_rfl) ?_ _
        have br5 := br0.upd u5 (by omega)
        have p0 := hx5.cell 0
        have p1 := hx5.cell 1
        have p2 := hx5.cell 2
        have r0 := br5.cell 0
        have r1 := br5.cell 1
        have r2 := br5.cell 2
        have r3 := br5.frozen 0
        have r4 := br5.frozen 1
        have r5 := br5.frozen 2
        clear x0 x1 x2 z0 z1 z2 z3 z4 z5 y1 y2 y3 D1 D2 D3 s1 s2 s3
        go_wp2_with fail
        obtain ⟨w9, H9⟩ := nm (((w5.setCell ⟨w.heap.size + 1, 0, none⟩ (.int .i64 b40)).setCell ⟨w.heap.size + 1, 1, none⟩ (.int .i64 a5)).setCell ⟨w.heap.size + 1, 2, none⟩ (.slice A ar c))
        have hx : Blk w9 (w.heap.size + 1) 24 #[.int .i64 b40, .int .i64 a5, .slice A ar c] := by
          rw [← H9.out]
          exact ((br5.set_ 0 _).set_ 1 _).set_ 2 _
        have u9 : Upd (fun q => q = w.heap.size + 1) w5 w9 := by
          rw [← H9.out]
          exact (((Upd.refl (S := fun q => q = w.heap.size + 1)).setCell (p := ⟨w.heap.size + 1, 0, none⟩) (.inl rfl) _).setCell (p := ⟨w.heap.size + 1, 1, none⟩) (.inl rfl) _).setCell (p := ⟨w.heap.size + 1, 2, none⟩) (.inl rfl) _
        rw [H9.out]
        refine bodyPost_ret (results_cell_row rfl _ _ (w.heap.size + 1) 24 #[.int .i64 b40, .int .i64 a5, .slice A ar c] (0, 0) _ rfl hx.drew Try.underlying24 rfl (by kernel_rfl)) rfl ?_
        rw [HN.out]
        refine ⟨A, c, ?_, ?_, fun q hq => by have := HA.out q hq; omega, ?_⟩
        · dsimp only; rw [dKids_len]
        · dsimp only; rw [dKids_len]; exact ((ho'.upd u5 (fun q hq e => by have := HA.out q hq; omega)).upd u9 (fun q hq e => by have := HA.out q hq; omega)).drew
        · exact ((((hU.trans hU2 (fun _ _ f => f.elim)).trans hu (fun i hi e => by omega)).trans u5 (fun i hi e => by omega)).trans u9 (fun i hi e => by omega)).drew
      · have HN : Hid (dNode d n = ⟨op, 0, dKids d n ar⟩) := by show _ = _; unfold dNode; rw [if_neg h13, ha2, Hop.out]
        have hb13 : (K13 == 0) = false := by rw [← HK13.out, beq_eq_false_iff_ne]; exact h13
        have CP13 := Lib.hid (CP.out d.op 13 wr (by omega) (by omega))
        rw [HK13.out] at CP13
        clear h13
        go_wp2_with fail
        refine CP13.out.mono ?_
        rintro e wr' ⟨rfl, rfl⟩
        go_wp2_with fail
        obtain ⟨w9, H9⟩ := nm (((wr.setCell ⟨w.heap.size + 1, 0, none⟩ (.int .i64 op)).setCell ⟨w.heap.size + 1, 1, none⟩ (.int .i64 0)).setCell ⟨w.heap.size + 1, 2, none⟩ (.slice A ar c))
        have hx : Blk w9 (w.heap.size + 1) 24 #[.int .i64 op, .int .i64 0, .slice A ar c] := by
          rw [← H9.out]
          exact ((br0.set_ 0 _).set_ 1 _).set_ 2 _
        have u9 : Upd (fun q => q = w.heap.size + 1) wr w9 := by
          rw [← H9.out]
          exact (((Upd.refl (S := fun q => q = w.heap.size + 1)).setCell (p := ⟨w.heap.size + 1, 0, none⟩) (.inl rfl) _).setCell (p := ⟨w.heap.size + 1, 1, none⟩) (.inl rfl) _).setCell (p := ⟨w.heap.size + 1, 2, none⟩) (.inl rfl) _
        rw [H9.out]
        refine bodyPost_ret (results_cell_row rfl _ _ (w.heap.size + 1) 24 #[.int .i64 op, .int .i64 0, .slice A ar c] (0, 0) _ rfl hx Try.underlying24 rfl (by kernel_rfl)) rfl ?_
        rw [HN.out]
        refine ⟨A, c, ?_, ?_, fun q hq => by have := HA.out q hq; omega, ?_⟩
        · dsimp only; rw [dKids_len]
        · dsimp only; rw [dKids_len]; exact ho'.upd u9 (fun q hq e => by have := HA.out q hq; omega)
        · exact ((hU.trans hU2 (fun _ _ f => f.elim)).trans hu (fun i hi e => by omega)).trans u9 (fun i hi e => by omega)
end Go.Proofs.Ytigambcefdeaoaa
