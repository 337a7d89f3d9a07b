/-
  Arguments opened: patterns that came in, as they lie in memory; a size is at most what was read. No condition of its own.
-/
import Derived.Test.YtnefhokojbkppaaRows
import Derived.Test.YtnefhokojbkppaaOpenG
import Derived.Test.YtnefhokojbkppaaPtV
namespace Go.Proofs.Ytnefhokojbkppaa
open Go.RowKit Go.WideShapes Go.ChangeShapes Go.ChangeAt

section
variable {H : Type}
theorem bulk_part {d : DataW H} {l : List (DataW H)} (h : d ∈ l) : Rows.uptoBulk d ≤ Rows.uptoBulkAll l := by
  induction l with
  | nil => cases h
  | cons x r ih =>
    simp only [Rows.uptoBulkAll]
    cases List.mem_cons.1 h with
    | inl e => subst e; omega
    | inr e => have := ih e; omega
theorem bulk_slice (elems spare : List (DataW H)) : Rows.uptoBulkAll elems + 1 ≤ Rows.uptoBulk (.slice elems spare) := by
  simp only [Rows.uptoBulk]
  omega
theorem bulk_agg (l : List (DataW H)) : Rows.uptoBulk (.agg l) = Rows.uptoBulkAll l + 1 := by simp only [Rows.uptoBulk]
theorem bulk_string (bytes : List UInt8) : Rows.uptoBulk (DataW.lit (H := H) (.string bytes)) = bytes.length + 1 := by simp [Rows.uptoBulk]
theorem sizeL_bulk : ∀ (L : List Pt) (D : List (DataW H)), L.length = D.length → (∀ i (h : i < L.length) (g : i < D.length), L[i].size ≤ Rows.uptoBulk D[i]) → Pt.sizeL L ≤ Rows.uptoBulkAll D
  | [], [], _, _ => by simp [Pt.sizeL, Rows.uptoBulkAll]
  | p :: L, d :: D, hl, h => by
    have h0 := h 0 (by simp) (by simp)
    have h1 := sizeL_bulk L D (by simpa using hl) (fun i hi gi => by
      have := h (i + 1) (by simpa using hi) (by simpa using gi)
      simpa using this)
    simp only [Pt.sizeL, Rows.uptoBulkAll]
    simp at h0
    omega
  | [], _ :: _, hl, _ => by simp at hl
  | _ :: _, [], hl, _ => by simp at hl
theorem len_bulk {α : Type} (L : List α) (D : List (DataW H)) (hl : L.length = D.length) : L.length ≤ Rows.uptoBulkAll D := by
  rw [hl]
  clear hl
  induction D with
  | nil => simp
  | cons d D ih =>
    have : 1 ≤ Rows.uptoBulk d := by
      cases d with
      | lit l => cases l <;> simp [Rows.uptoBulk]
      | nil => simp [Rows.uptoBulk]
      | ptr d => simp [Rows.uptoBulk]
      | slice elems spare => simp [Rows.uptoBulk]
      | agg parts => simp [Rows.uptoBulk]
      | iface t d => simp [Rows.uptoBulk]
      | map entries => simp [Rows.uptoBulk]
      | held h => simp [Rows.uptoBulk]
    simp only [List.length_cons, Rows.uptoBulkAll]
    omega
end

section
variable {H : Type} {enc : TypeId × Value → H} {P : Program} {w : World} {base fuel : Nat} {sp : Nat → Bool} {held : Bool} {t e : TypeId} {cs : List Value} {x : DataW H × List MemPlace}
/-- A slice opened; its elements were read with less fuel. -/
theorem open_slice_lt (ht : P.underlying t = some (.slice e)) (h : DataW.trod enc P w base sp held fuel t cs = some x) :
    (cs = [.slice none 0 0] ∧ x = (.nil, [])) ∨
    ∃ (a : Addr) (len cap n : Nat) (D Sp : List (DataW H)) (ps : List MemPlace), fuel = n + 1 ∧ cs = [.slice (some a) len cap] ∧ len ≤ cap ∧ x = (.slice D Sp, ps) ∧ D.length = len ∧
      ∀ i (hi : i < D.length), ∃ cs' Pl, w.cells? base (a.add (i * P.cellsOf e)) (P.cellsOf e) = some cs' ∧ DataW.trod enc P w base sp held n e cs' = some (D[i], Pl) := by
  rcases DataW.trod_slice ht h with h0 | ⟨a, len, cap, elems, rest, n, hn, rfl, rfl, hb, hl, hm, hlen, hel, _, _⟩
  · exact .inl h0
  · refine .inr ⟨a, len, cap, n, elems.map (·.1), rest.map (·.1), _, hn, rfl, hl, rfl, by simp [hlen], fun i hi => ?_⟩
    have hi' : i < elems.length := by simpa using hi
    have := hel i (by omega)
    rw [List.getElem?_eq_getElem hi', Option.bind_eq_some_iff] at this
    obtain ⟨cs', h1, h2⟩ := this
    exact ⟨cs', elems[i].2, h1, by rw [h2]; simp⟩
end

theorem cells_Pattern : Try.prog.cellsOf 24 = 5 := by kernel_rfl
theorem cells_Patterns : Try.prog.cellsOf 22 = 1 := by kernel_rfl
theorem und_Pattern : ∃ f0 f1 f2 f3 f4 : Field, Try.prog.underlying 24 = some (.struct #[f0, f1, f2, f3, f4]) ∧ f0.type = 3 ∧ f0.offset = 0 ∧ f1.type = 3 ∧ f1.offset = 1 ∧ f2.type = 2 ∧ f2.offset = 2 ∧ f3.type = 3 ∧ f3.offset = 3 ∧ f4.type = 22 ∧ f4.offset = 4 := ⟨_, _, _, _, _, Try.underlying24, rfl, rfl, rfl, rfl, rfl, rfl, rfl, rfl, rfl, rfl⟩

section
variable {H : Type} {enc : TypeId × Value → H} {w : World} {base : Nat} {sp : Nat → Bool} {held : Bool}

set_option maxRecDepth 100000 in
theorem open_ptT : ∀ (fuel : Nat) {cs : List Value} {x : DataW H × List MemPlace}, DataW.trod enc Try.prog w base sp held fuel 24 cs = some x →
    ∃ (p : Pt) (KA : Option Addr) (kc : Nat), cs = [.int .i64 p.v, .int .i64 p.op, .int .i64 p.imm, .int .i64 p.iv, .slice KA p.kids.length kc] ∧ PtK w (fun _ => True) p KA kc ∧ p.size ≤ Rows.uptoBulk x.1 := by
  intro fuel
  induction fuel using Nat.strongRecOn with
  | ind fuel ih =>
    intro cs x h
    obtain ⟨f0, f1, f2, f3, f4, hu, t0, o0, t1, o1, t2, o2, t3, o3, t4, o4⟩ := und_Pattern
    obtain ⟨xs, n, hn, rfl, hl, hlen, hf⟩ := DataW.trod_struct hu h
    rw [cells_Pattern] at hl
    match cs, hl with
    | [v0, v1, v2, v3, v4], _ =>
      match xs, hlen with
      | [y0, y1, y2, y3, y4], _ =>
        have g0 := hf 0 f0 rfl
        have g1 := hf 1 f1 rfl
        have g2 := hf 2 f2 rfl
        have g3 := hf 3 f3 rfl
        have g4 := hf 4 f4 rfl
        rw [t0, o0, cells_int] at g0
        rw [t1, o1, cells_int] at g1
        rw [t2, o2, cells_int64] at g2
        rw [t3, o3, cells_int] at g3
        rw [t4, o4, cells_Patterns] at g4
        simp at g0 g1 g2 g3 g4
        obtain ⟨a, e0, i0⟩ := open_intT Try.underlying3 g0
        obtain ⟨b, e1, i1⟩ := open_intT Try.underlying3 g1
        obtain ⟨c, e2, i2⟩ := open_intT Try.underlying2 g2
        obtain ⟨d, e3, i3⟩ := open_intT Try.underlying3 g3
        simp at e0 e1 e2 e3
        subst e0; subst e1; subst e2; subst e3
        rcases open_slice_lt Try.underlying22 g4 with ⟨hcs, hx⟩ | ⟨A, len, cap, n', D, Sp, ps, hn', hcs, hl, hx, hD, hcell⟩
        · simp at hcs
          subst hcs
          refine ⟨.mk a b c d [], none, 0, rfl, ?_, ?_⟩
          · rw [PtK.iff]; exact ⟨Nat.le_refl _, .inl rfl⟩
          · rw [Pt.size_eq, bulk_agg]; simp [Pt.kids, Pt.sizeL]
        · simp at hcs
          subst hcs
          have each : ∀ i, i < len → ∃ p : Pt, (∃ KA kc, (∀ j, j < 5 → w.cell? ((A.add (i * 5)).add j) = [Value.int .i64 p.v, .int .i64 p.op, .int .i64 p.imm, .int .i64 p.iv, .slice KA p.kids.length kc][j]?) ∧ PtK w (fun _ => True) p KA kc) ∧ ∀ g : i < D.length, p.size ≤ Rows.uptoBulk D[i] := fun i hi => by
            obtain ⟨cs', Pl, h1, h2⟩ := hcell i (by omega)
            rw [cells_Pattern] at h1
            obtain ⟨_, _, h3⟩ := World.cells?_some h1
            obtain ⟨p, KA, kc, rfl, h4, h5⟩ := ih n' (by omega) h2
            exact ⟨p, ⟨KA, kc, h3, h4⟩, fun _ => h5⟩
          obtain ⟨L, hL, hp⟩ := list_of len each
          subst hL
          refine ⟨.mk a b c d L, some A, cap, rfl, ?_, ?_⟩
          · rw [PtK.iff]
            refine ⟨hl, ?_⟩
            by_cases h0 : L.length = 0
            · exact .inl (List.eq_nil_of_length_eq_zero h0)
            · obtain ⟨blk, off, spot⟩ := A
              obtain ⟨⟨KA, kc, hh, _⟩, _⟩ := hp 0 (by omega)
              have h1 := hh 0 (by omega)
              have hspot : spot = none := spot_none (by simpa [Addr.add] using h1)
              subst hspot
              refine .inr ⟨blk, off, rfl, trivial, PtL.of fun i hi => ?_⟩
              obtain ⟨⟨KA, kc, hh, h4⟩, _⟩ := hp i hi
              have c0 := hh 0 (by omega)
              have c1 := hh 1 (by omega)
              have c2 := hh 2 (by omega)
              have c3 := hh 3 (by omega)
              have c4 := hh 4 (by omega)
              simp only [Addr.add_lit] at c0 c1 c2 c3 c4
              exact ⟨KA, kc, c0, c1, c2, c3, c4, h4⟩
          · rw [Pt.size_eq, bulk_agg]
            rw [hx]
            have h1 := bulk_slice D Sp
            have h2 := sizeL_bulk L D hD.symm (fun i hi gi => (hp i hi).2 gi)
            simp only [List.map_cons, List.map_nil, Rows.uptoBulkAll]
            show 1 + Pt.sizeL L ≤ _
            omega
end
end Go.Proofs.Ytnefhokojbkppaa
