/-
  Arguments opened: slices of nodes and of pairs that came in, as they lie in memory. No condition of its own.
-/
import Derived.Test.YtigambcefdeaoaaOpen
import Derived.Test.YtigambcefdeaoaaPass
import Derived.Deep.Slices
namespace Go.Proofs.Ytigambcefdeaoaa
open Go.RowKit Go.WideShapes Go.ChangeShapes Go.ChangeAt

section
variable {H : Type} {enc : TypeId × Value → H} {P : Program} {w : World}

/-- What was read takes no more than the form's reach. -/
def Wt (P : Program) (t : TypeId) (d : DataW H) : Prop := ∀ n ∈ d.weights P t, n ≤ reachBytes
theorem Wt.of {ts : List TypeId} {ds : List (DataW H)} (hsz : (DataW.weightsEach P ts ds).all (· ≤ reachBytes) = true) {j : Nat} {t : TypeId} {d : DataW H} (htj : ts[j]? = some t) (hdj : ds[j]? = some d) : Wt P t d := fun n hn => by
  have := List.all_eq_true.1 hsz _ (DataW.weights_mem_each htj hdj n hn)
  simpa using this
theorem mem_weightsAll {e : TypeId} : ∀ {ds : List (DataW H)} {d : DataW H}, d ∈ ds → ∀ n ∈ d.weights P e, n ∈ DataW.weightsAll P e ds
  | d0 :: ds, d, h, n, hn => by
    simp only [DataW.weightsAll, List.mem_append]
    rcases List.mem_cons.1 h with rfl | h
    · exact .inl hn
    · exact .inr (mem_weightsAll h n hn)
theorem Wt.elem {t e : TypeId} {elems spare : List (DataW H)} (ht : P.underlying t = some (.slice e)) (h : Wt P t (.slice elems spare)) {d : DataW H} (hd : d ∈ elems) : Wt P e d := fun n hn =>
  h n (by simp only [DataW.weights, ht, List.mem_cons, List.mem_append]; exact .inr (.inl (mem_weightsAll hd n hn)))
theorem Wt.head {t e : TypeId} {elems spare : List (DataW H)} (ht : P.underlying t = some (.slice e)) (h : Wt P t (.slice elems spare)) : (elems.length + spare.length) * P.bytesOf e ≤ reachBytes :=
  h _ (by simp [DataW.weights, ht])
theorem Wt.part {t : TypeId} {fs : Array Field} {parts : List (DataW H)} (ht : P.underlying t = some (.struct fs)) (h : Wt P t (.agg parts)) {j : Nat} {f : Field} {d : DataW H} (hf : fs[j]? = some f) (hd : parts[j]? = some d) : Wt P f.type d := fun n hn =>
  h n (by
    simp only [DataW.weights, ht]
    exact DataW.weights_mem_each (j := j) (by simp [hf]) hd n hn)

theorem open_intT {base : Nat} {sp : Nat → Bool} {held : Bool} {t : TypeId} {fuel : Nat} {cs : List Value} {x : DataW H × List MemPlace} (ht : P.underlying t = some (.int .i64)) (h : DataW.trod enc P w base sp held fuel t cs = some x) : ∃ n, cs = [.int .i64 n] ∧ I64 n := by
  obtain ⟨n, h1, _, h2⟩ := DataW.trod_int ht h
  exact ⟨n, h1, i64_of_wf h2⟩

theorem spot_none {b off : Nat} {spot : Option Nat} {v : Value} (h : w.cell? ((⟨b, off, spot⟩ : Addr).add 0) = some v) : spot = none := by simpa [Addr.add] using World.cell?_spot h

theorem open_intsT {base : Nat} {sp : Nat → Bool} {held : Bool} {t e : TypeId} {fuel : Nat} {cs : List Value} {x : DataW H × List MemPlace} (ht : P.underlying t = some (.slice e)) (he : P.underlying e = some (.int .i64)) (hc : P.cellsOf e = 1) (hby : P.bytesOf e = 8)
    (h : DataW.trod enc P w base sp held fuel t cs = some x) (hw : Wt P t x.1) :
    ∃ A c xs, cs = [.slice A (List.length xs) c] ∧ xs.length ≤ c ∧ Ints w (fun _ => True) A xs ∧ (∀ x ∈ xs, I64 x) ∧ 8 * xs.length + 4096 ≤ 140737488355328 := by
  rcases open_ints ht he hc h with ⟨hcs, hx⟩ | ⟨a, len, cap, zs, hcs, _, hl, hm, hz, hx, hcell, hwz⟩
  · exact ⟨none, 0, [], hcs, by simp, .inl rfl, by simp, by simp⟩
  · subst hx
    have hzl : len ≤ zs.length := by rw [hz]; split <;> omega
    have hlen : (zs.take len).length = len := by simp; omega
    refine ⟨some a, cap, zs.take len, by rw [hlen]; exact hcs, by omega, ?_, fun x hx => i64_of_wf (hwz x (List.mem_of_mem_take hx)), ?_⟩
    · by_cases h0 : len = 0
      · subst h0; exact .inl (by simp)
      · obtain ⟨b, off, spot⟩ := a
        have hspot := spot_none (hcell 0 (by omega))
        subst hspot
        refine .inr ⟨b, off, rfl, trivial, fun k hk => ?_⟩
        have hk' : k < zs.length := by simp at hk; omega
        have := hcell k hk'
        rw [Addr.add_lit] at this
        rw [this]
        simp [List.getD, hk']
    · have := hw.head ht
      rw [hby] at this
      simp only [lits, List.length_map, List.length_take, List.length_drop, reachBytes] at this
      rw [hlen]
      omega
end

theorem cells_Node : Try.prog.cellsOf 24 = 3 := by kernel_rfl
theorem cells_pair : Try.prog.cellsOf 66 = 2 := by kernel_rfl
theorem cells_int64 : Try.prog.cellsOf 2 = 1 := by kernel_rfl
theorem cells_ints : Try.prog.cellsOf 22 = 1 := by kernel_rfl
theorem bytes_Node : Try.prog.bytesOf 24 = 40 := by kernel_rfl
theorem bytes_pair : Try.prog.bytesOf 66 = 16 := by kernel_rfl
theorem und_Node : ∃ f0 f1 f2 : Field, Try.prog.underlying 24 = some (.struct #[f0, f1, f2]) ∧ f0.type = 3 ∧ f0.offset = 0 ∧ f1.type = 2 ∧ f1.offset = 1 ∧ f2.type = 22 ∧ f2.offset = 2 := ⟨_, _, _, Try.underlying24, rfl, rfl, rfl, rfl, rfl, rfl⟩

section
variable {H : Type} {enc : TypeId × Value → H} {w : World} {base : Nat} {sp : Nat → Bool} {held : Bool}

set_option maxRecDepth 100000 in
theorem open_nodeT {fuel : Nat} {cs : List Value} {x : DataW H × List MemPlace} (h : DataW.trod enc Try.prog w base sp held fuel 24 cs = some x) (hw : Wt Try.prog 24 x.1) :
    ∃ nd KA kc, cs = [.int .i64 (Nd.op nd), .int .i64 nd.imm, .slice KA nd.kids.length kc] ∧ nd.kids.length ≤ kc ∧ Ints w (fun _ => True) KA nd.kids ∧ NdOk nd ∧ (∀ x ∈ nd.kids, I64 x) := by
  obtain ⟨f0, f1, f2, hu, t0, o0, t1, o1, t2, o2⟩ := und_Node
  obtain ⟨xs, n, _, rfl, hl, hlen, hf⟩ := DataW.trod_struct hu h
  rw [cells_Node] at hl
  match cs, hl with
  | [v0, v1, v2], _ =>
    match xs, hlen with
    | [y0, y1, y2], _ =>
      have g0 := hf 0 f0 rfl
      have g1 := hf 1 f1 rfl
      have g2 := hf 2 f2 rfl
      have w2 := hw.part hu (j := 2) (f := f2) (d := y2.1) rfl rfl
      rw [t0, o0, cells_int] at g0
      rw [t1, o1, cells_int64] at g1
      rw [t2, o2, cells_ints] at g2
      rw [t2] at w2
      simp at g0 g1 g2
      obtain ⟨a, e0, i0⟩ := open_intT Try.underlying3 g0
      obtain ⟨b, e1, i1⟩ := open_intT Try.underlying2 g1
      obtain ⟨KA, kc, ks, e2, hle, hK, hi, hb⟩ := open_intsT Try.underlying22 Try.underlying3 cells_int bytes_int g2 w2
      simp at e0 e1 e2
      subst e0; subst e1; subst e2
      exact ⟨⟨a, b, ks⟩, KA, kc, rfl, hle, hK, ⟨i0, i1, by dsimp only; omega⟩, hi⟩

set_option maxRecDepth 100000 in
theorem open_pairT {fuel : Nat} {cs : List Value} {x : DataW H × List MemPlace} (h : DataW.trod enc Try.prog w base sp held fuel 66 cs = some x) :
    ∃ a b, cs = [.int .i64 a, .int .i64 b] ∧ I64 a ∧ I64 b := by
  obtain ⟨xs, n, _, rfl, hl, hlen, hf⟩ := DataW.trod_array Try.underlying66 h
  rw [cells_pair] at hl
  match cs, hl with
  | [v0, v1], _ =>
    match xs, hlen with
    | [y0, y1], _ =>
      have g0 := hf 0 (by omega)
      have g1 := hf 1 (by omega)
      rw [cells_int] at g0 g1
      simp at g0 g1
      obtain ⟨a, e0, i0⟩ := open_intT Try.underlying3 g0
      obtain ⟨b, e1, i1⟩ := open_intT Try.underlying3 g1
      simp at e0 e1
      subst e0; subst e1
      exact ⟨a, b, rfl, i0, i1⟩

theorem list_of {α : Type} {p : Nat → α → Prop} : ∀ (n : Nat), (∀ i, i < n → ∃ a, p i a) → ∃ l : List α, l.length = n ∧ ∀ i (h : i < l.length), p i l[i]
  | 0, _ => ⟨[], rfl, by simp⟩
  | n + 1, h => by
    obtain ⟨l, hl, hp⟩ := list_of n (fun i hi => h i (by omega))
    obtain ⟨a, ha⟩ := h n (by omega)
    refine ⟨l ++ [a], by simp [hl], fun i hi => ?_⟩
    by_cases e : i < l.length
    · rw [List.getElem_append_left e]; exact hp i e
    · have : i = l.length := by simp at hi; omega
      subst this
      simp; rw [hl]; exact ha

set_option maxRecDepth 100000 in
theorem open_nodesV {r : Reach} {b0 : Nat} {v : Value} {d : DataW H} {ps : List MemPlace} (hval : Value.okWide Try.prog w r b0 25 v) (hd : DataW.Trod enc Try.prog w base sp held 25 v d ps) (hw : Wt Try.prog 25 d) :
    ∃ A c L, v = .slice A (List.length L) c ∧ L.length ≤ c ∧ NodesV w (fun _ => True) A L ∧ (∀ nd ∈ L, NdOk nd) ∧ (∀ nd ∈ L, ∀ x ∈ nd.kids, I64 x) ∧ 40 * L.length ≤ 140737488355328 := by
  obtain ⟨a0, len, cap, rfl⟩ := okWide_slice Try.underlying25 hval
  obtain ⟨fuel, hf⟩ := hd
  rcases Go.Deep.open_slice Try.underlying25 hf with ⟨hcs, hx⟩ | ⟨a, len', cap', m, n, D, Pl, hcs, _, hl, hm, hmm, hx, hcell⟩
  · simp [Value.cells] at hcs
    obtain ⟨rfl, rfl, rfl⟩ := hcs
    exact ⟨none, 0, [], rfl, by simp, .inl rfl, by simp, by simp, by simp⟩
  · simp [Value.cells] at hcs
    obtain ⟨rfl, rfl, rfl⟩ := hcs
    simp only [Prod.mk.injEq] at hx
    obtain ⟨rfl, rfl⟩ := hx
    have hlm : len ≤ m := by rw [hmm]; split <;> omega
    have hwt := hw.head Try.underlying25
    rw [bytes_Node] at hwt
    simp only [List.length_map, List.length_range, reachBytes] at hwt
    have each : ∀ i, i < len → ∃ nd : Nd, ∃ KA kc, (∀ j, j < 3 → w.cell? ((a.add (i * 3)).add j) = [Value.int .i64 nd.op, .int .i64 nd.imm, .slice KA nd.kids.length kc][j]?) ∧ nd.kids.length ≤ kc ∧ Ints w (fun _ => True) KA nd.kids ∧ NdOk nd ∧ (∀ x ∈ nd.kids, I64 x) := fun i hi => by
      obtain ⟨cs', h1, h2⟩ := hcell i (by omega)
      rw [cells_Node] at h1
      obtain ⟨_, _, h3⟩ := World.cells?_some h1
      obtain ⟨nd, KA, kc, rfl, h4, h5, h6, h7⟩ := open_nodeT h2 (hw.elem Try.underlying25 (List.mem_map.2 ⟨i, List.mem_range.2 hi, rfl⟩))
      exact ⟨nd, KA, kc, h3, h4, h5, h6, h7⟩
    obtain ⟨L, hL, hp⟩ := list_of len each
    subst hL
    refine ⟨some a, cap, L, rfl, hl, ?_, fun nd hnd => ?_, fun nd hnd => ?_, by omega⟩
    · by_cases h0 : L.length = 0
      · exact .inl (List.eq_nil_of_length_eq_zero h0)
      · obtain ⟨b, off, spot⟩ := a
        obtain ⟨KA, kc, hh, _⟩ := hp 0 (by omega)
        have h1 := hh 0 (by omega)
        have hspot : spot = none := spot_none (by simpa [Addr.add] using h1)
        subst hspot
        refine .inr ⟨b, off, rfl, trivial, fun i hi => ?_⟩
        obtain ⟨KA, kc, hh, h4, h5, _⟩ := hp i hi
        have c0 := hh 0 (by omega)
        have c1 := hh 1 (by omega)
        have c2 := hh 2 (by omega)
        simp only [Addr.add_lit] at c0 c1 c2
        exact ⟨c0, c1, KA, kc, c2, h4, h5⟩
    · obtain ⟨i, hi, rfl⟩ := List.mem_iff_getElem.1 hnd
      obtain ⟨KA, kc, hh, h4, h5, h6, h7⟩ := hp i hi
      exact h6
    · obtain ⟨i, hi, rfl⟩ := List.mem_iff_getElem.1 hnd
      obtain ⟨KA, kc, hh, h4, h5, h6, h7⟩ := hp i hi
      exact h7

set_option maxRecDepth 100000 in
theorem open_pairsV {r : Reach} {b0 : Nat} {v : Value} {d : DataW H} {ps : List MemPlace} (hval : Value.okWide Try.prog w r b0 65 v) (hd : DataW.Trod enc Try.prog w base sp held 65 v d ps) (hw : Wt Try.prog 65 d) :
    ∃ A c L, v = .slice A (List.length L) c ∧ L.length ≤ c ∧ PairsV w (fun _ => True) A L ∧ 16 * L.length ≤ 140737488355328 := by
  obtain ⟨a0, len, cap, rfl⟩ := okWide_slice Try.underlying65 hval
  obtain ⟨fuel, hf⟩ := hd
  rcases Go.Deep.open_slice Try.underlying65 hf with ⟨hcs, hx⟩ | ⟨a, len', cap', m, n, D, Pl, hcs, _, hl, hm, hmm, hx, hcell⟩
  · simp [Value.cells] at hcs
    obtain ⟨rfl, rfl, rfl⟩ := hcs
    exact ⟨none, 0, [], rfl, by simp, .inl rfl, by simp⟩
  · simp [Value.cells] at hcs
    obtain ⟨rfl, rfl, rfl⟩ := hcs
    simp only [Prod.mk.injEq] at hx
    obtain ⟨rfl, rfl⟩ := hx
    have hlm : len ≤ m := by rw [hmm]; split <;> omega
    have hwt := hw.head Try.underlying65
    rw [bytes_pair] at hwt
    simp only [List.length_map, List.length_range, reachBytes] at hwt
    have each : ∀ i, i < len → ∃ p : Int × Int, ∀ j, j < 2 → w.cell? ((a.add (i * 2)).add j) = [Value.int .i64 p.1, .int .i64 p.2][j]? := fun i hi => by
      obtain ⟨cs', h1, h2⟩ := hcell i (by omega)
      rw [cells_pair] at h1
      obtain ⟨_, _, h3⟩ := World.cells?_some h1
      obtain ⟨x, y, rfl, _, _⟩ := open_pairT h2
      exact ⟨(x, y), h3⟩
    obtain ⟨L, hL, hp⟩ := list_of len each
    subst hL
    refine ⟨some a, cap, L, rfl, hl, ?_, by omega⟩
    by_cases h0 : L.length = 0
    · exact .inl (List.eq_nil_of_length_eq_zero h0)
    · obtain ⟨b, off, spot⟩ := a
      have h1 := hp 0 (by omega) 0 (by omega)
      have hspot : spot = none := spot_none (by simpa [Addr.add] using h1)
      subst hspot
      refine .inr ⟨b, off, rfl, trivial, fun i hi => ?_⟩
      have c0 := hp i hi 0 (by omega)
      have c1 := hp i hi 1 (by omega)
      simp only [Addr.add_lit] at c0 c1
      exact ⟨c0, c1⟩
end
end Go.Proofs.Ytigambcefdeaoaa
