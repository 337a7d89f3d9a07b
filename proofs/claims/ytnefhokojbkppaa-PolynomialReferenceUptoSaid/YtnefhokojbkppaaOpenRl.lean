/-
  Arguments opened: rules that came in, as they lie in memory; their sizes are at most what was read. No condition of its own.
-/
import Derived.Test.YtnefhokojbkppaaOpenPt
import Derived.Test.YtnefhokojbkppaaRulQ
namespace Go.Proofs.Ytnefhokojbkppaa
open Go.RowKit Go.WideShapes Go.ChangeShapes Go.ChangeAt

theorem cells_Cond : Try.prog.cellsOf 81 = 4 := by kernel_rfl
theorem cells_Conds : Try.prog.cellsOf 49 = 1 := by kernel_rfl
theorem cells_string : Try.prog.cellsOf 9 = 1 := by kernel_rfl
theorem cells_Rule : Try.prog.cellsOf 51 = 14 := by kernel_rfl
theorem und_Cond : ∃ f0 f1 f2 f3 : Field, Try.prog.underlying 81 = some (.struct #[f0, f1, f2, f3]) ∧ f0.type = 3 ∧ f0.offset = 0 ∧ f1.type = 3 ∧ f1.offset = 1 ∧ f2.type = 3 ∧ f2.offset = 2 ∧ f3.type = 2 ∧ f3.offset = 3 := ⟨_, _, _, _, Try.underlying81, rfl, rfl, rfl, rfl, rfl, rfl, rfl, rfl⟩
theorem und_Rule : ∃ f0 f1 f2 f3 f4 f5 : Field, Try.prog.underlying 51 = some (.struct #[f0, f1, f2, f3, f4, f5]) ∧ f0.type = 9 ∧ f0.offset = 0 ∧ f1.type = 24 ∧ f1.offset = 1 ∧ f2.type = 24 ∧ f2.offset = 6 ∧ f3.type = 49 ∧ f3.offset = 11 ∧ f4.type = 3 ∧ f4.offset = 12 ∧ f5.type = 3 ∧ f5.offset = 13 := ⟨_, _, _, _, _, _, Try.underlying51, rfl, rfl, rfl, rfl, rfl, rfl, rfl, rfl, rfl, rfl, rfl, rfl⟩

section
variable {H : Type} {enc : TypeId × Value → H} {w : World} {base : Nat} {sp : Nat → Bool} {held : Bool}

set_option maxRecDepth 100000 in
theorem open_condT {fuel : Nat} {cs : List Value} {x : DataW H × List MemPlace} (h : DataW.trod enc Try.prog w base sp held fuel 81 cs = some x) :
    ∃ c : Cd, cs = [.int .i64 c.kind, .int .i64 c.a, .int .i64 c.b, .int .i64 c.n] := by
  obtain ⟨f0, f1, f2, f3, hu, t0, o0, t1, o1, t2, o2, t3, o3⟩ := und_Cond
  obtain ⟨xs, n, hn, rfl, hl, hlen, hf⟩ := DataW.trod_struct hu h
  rw [cells_Cond] at hl
  match cs, hl with
  | [v0, v1, v2, v3], _ =>
    match xs, hlen with
    | [y0, y1, y2, y3], _ =>
      have g0 := hf 0 f0 rfl
      have g1 := hf 1 f1 rfl
      have g2 := hf 2 f2 rfl
      have g3 := hf 3 f3 rfl
      rw [t0, o0, cells_int] at g0
      rw [t1, o1, cells_int] at g1
      rw [t2, o2, cells_int] at g2
      rw [t3, o3, cells_int64] at g3
      simp at g0 g1 g2 g3
      obtain ⟨a, e0, _⟩ := open_intT Try.underlying3 g0
      obtain ⟨b, e1, _⟩ := open_intT Try.underlying3 g1
      obtain ⟨c, e2, _⟩ := open_intT Try.underlying3 g2
      obtain ⟨d, e3, _⟩ := open_intT Try.underlying2 g3
      simp at e0 e1 e2 e3
      subst e0; subst e1; subst e2; subst e3
      exact ⟨⟨a, b, c, d⟩, rfl⟩

set_option maxRecDepth 100000 in
theorem open_condsT {fuel : Nat} {cs : List Value} {x : DataW H × List MemPlace} (h : DataW.trod enc Try.prog w base sp held fuel 49 cs = some x) :
    ∃ (A : Option Addr) (c : Nat) (L : List Cd), cs = [.slice A L.length c] ∧ L.length ≤ c ∧ CondsV w (fun _ => True) A L ∧ L.length ≤ Rows.uptoBulk x.1 := by
  rcases open_slice_lt Try.underlying49 h with ⟨hcs, hx⟩ | ⟨A, len, cap, n', D, Sp, ps, hn', hcs, hl, hx, hD, hcell⟩
  · exact ⟨none, 0, [], hcs, by simp, .inl rfl, by simp⟩
  · have each : ∀ i, i < len → ∃ c : Cd, ∀ j, j < 4 → w.cell? ((A.add (i * 4)).add j) = [Value.int .i64 c.kind, .int .i64 c.a, .int .i64 c.b, .int .i64 c.n][j]? := fun i hi => by
      obtain ⟨cs', Pl, h1, h2⟩ := hcell i (by omega)
      rw [cells_Cond] at h1
      obtain ⟨_, _, h3⟩ := World.cells?_some h1
      obtain ⟨c, rfl⟩ := open_condT h2
      exact ⟨c, h3⟩
    obtain ⟨L, hL, hp⟩ := list_of len each
    subst hL
    refine ⟨some A, cap, L, hcs, hl, ?_, ?_⟩
    · by_cases h0 : L.length = 0
      · exact .inl (List.eq_nil_of_length_eq_zero h0)
      · obtain ⟨blk, off, spot⟩ := A
        have h1 := hp 0 (by omega) 0 (by omega)
        have hspot : spot = none := spot_none (by simpa [Addr.add] using h1)
        subst hspot
        refine .inr ⟨blk, off, rfl, trivial, fun i hi => ?_⟩
        have c0 := hp i hi 0 (by omega)
        have c1 := hp i hi 1 (by omega)
        have c2 := hp i hi 2 (by omega)
        have c3 := hp i hi 3 (by omega)
        simp only [Addr.add_lit] at c0 c1 c2 c3
        exact ⟨c0, c1, c2, c3⟩
    · rw [hx]
      have h1 := bulk_slice D Sp
      have h2 := len_bulk L D hD.symm
      show L.length ≤ Rows.uptoBulk (.slice D Sp)
      omega

theorem open_strT {fuel : Nat} {cs : List Value} {x : DataW H × List MemPlace} (h : DataW.trod enc Try.prog w base sp held fuel 9 cs = some x) : ∃ s : ByteArray, cs = [.string s] ∧ s.size ≤ Rows.uptoBulk x.1 := by
  obtain ⟨s, h1, h2, _⟩ := DataW.trod_string Try.underlying9 h
  refine ⟨s, h1, ?_⟩
  rw [h2]
  show s.size ≤ Rows.uptoBulk (DataW.lit (H := H) (.string s.data.toList))
  rw [bulk_string, Array.length_toList]
  exact Nat.le_succ _

set_option maxRecDepth 100000 in
theorem open_rlT {fuel : Nat} {cs : List Value} {x : DataW H × List MemPlace} (h : DataW.trod enc Try.prog w base sp held fuel 51 cs = some x) :
    ∃ (r : Rl) (a : RlA), cs = (rlCells r a).toList ∧ RlK w (fun _ => True) r a ∧ r.l.size + r.r.size + r.conds.length + r.name.size ≤ Rows.uptoBulk x.1 := by
  obtain ⟨f0, f1, f2, f3, f4, f5, hu, t0, o0, t1, o1, t2, o2, t3, o3, t4, o4, t5, o5⟩ := und_Rule
  obtain ⟨xs, n, hn, rfl, hl, hlen, hf⟩ := DataW.trod_struct hu h
  rw [cells_Rule] at hl
  match cs, hl with
  | [v0, v1, v2, v3, v4, v5, v6, v7, v8, v9, v10, v11, v12, v13], _ =>
    match xs, hlen with
    | [y0, y1, y2, y3, y4, y5], _ =>
      have g0 := hf 0 f0 rfl
      have g1 := hf 1 f1 rfl
      have g2 := hf 2 f2 rfl
      have g3 := hf 3 f3 rfl
      have g4 := hf 4 f4 rfl
      have g5 := hf 5 f5 rfl
      rw [t0, o0, cells_string] at g0
      rw [t1, o1, cells_Pattern] at g1
      rw [t2, o2, cells_Pattern] at g2
      rw [t3, o3, cells_Conds] at g3
      rw [t4, o4, cells_int] at g4
      rw [t5, o5, cells_int] at g5
      simp at g0 g1 g2 g3 g4 g5
      obtain ⟨s, e0, b0⟩ := open_strT g0
      obtain ⟨p, KA, kc, e1, k1, b1⟩ := open_ptT _ g1
      obtain ⟨q, KB, kd, e2, k2, b2⟩ := open_ptT _ g2
      obtain ⟨A, c, L, e3, l3, k3, b3⟩ := open_condsT g3
      obtain ⟨a, e4, _⟩ := open_intT Try.underlying3 g4
      obtain ⟨b, e5, _⟩ := open_intT Try.underlying3 g5
      simp at e0 e1 e2 e3 e4 e5
      obtain ⟨rfl, rfl, rfl, rfl, rfl⟩ := e1
      obtain ⟨rfl, rfl, rfl, rfl, rfl⟩ := e2
      subst e0; subst e3; subst e4; subst e5
      refine ⟨⟨s, p, q, L, a, b⟩, ⟨KA, kc, KB, kd, A, c⟩, rfl, ⟨k1, k2, k3, l3⟩, ?_⟩
      rw [bulk_agg]
      simp only [List.map_cons, List.map_nil, Rows.uptoBulkAll]
      show p.size + q.size + L.length + s.size ≤ _
      omega

set_option maxRecDepth 100000 in
theorem open_ptV {r : Reach} {b0 : Nat} {v : Value} {d : DataW H} {ps : List MemPlace} (hval : Value.okWide Try.prog w r b0 24 v) (hd : DataW.Trod enc Try.prog w base sp held 24 v d ps) :
    ∃ (p : Pt) (KA : Option Addr) (kc : Nat), v = pv p KA kc ∧ PtK w (fun _ => True) p KA kc ∧ p.size ≤ Rows.uptoBulk d := by
  obtain ⟨cs, rfl, _⟩ := okWide_struct Try.underlying24 hval
  obtain ⟨fuel, hf⟩ := hd
  obtain ⟨p, KA, kc, e, k, b⟩ := open_ptT fuel hf
  have ec : cs = #[.int .i64 p.v, .int .i64 p.op, .int .i64 p.imm, .int .i64 p.iv, .slice KA p.kids.length kc] := Array.ext' (by simpa [Value.cells] using e)
  subst ec
  exact ⟨p, KA, kc, rfl, k, b⟩
set_option maxRecDepth 100000 in
theorem open_rlV {r : Reach} {b0 : Nat} {v : Value} {d : DataW H} {ps : List MemPlace} (hval : Value.okWide Try.prog w r b0 51 v) (hd : DataW.Trod enc Try.prog w base sp held 51 v d ps) :
    ∃ (x : Rl) (a : RlA), v = rlv x a ∧ RlK w (fun _ => True) x a ∧ x.l.size + x.r.size + x.conds.length + x.name.size ≤ Rows.uptoBulk d := by
  obtain ⟨cs, rfl, _⟩ := okWide_struct Try.underlying51 hval
  obtain ⟨fuel, hf⟩ := hd
  obtain ⟨x, a, e, k, b⟩ := open_rlT hf
  have ec : cs = rlCells x a := Array.ext' (by simpa [Value.cells] using e)
  subst ec
  exact ⟨x, a, rfl, k, b⟩
end
end Go.Proofs.Ytnefhokojbkppaa
