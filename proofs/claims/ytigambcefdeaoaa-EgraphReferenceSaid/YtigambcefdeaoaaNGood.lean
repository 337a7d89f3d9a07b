/-
  The generated nodes are good: they refer to one another; small lemmas on lists and views.
-/
import Derived.Test.YtigambcefdeaoaaNodes
import Derived.Test.YtigambcefdeaoaaPass
namespace Go.Proofs.Ytigambcefdeaoaa

theorem wordF_i64 {n raw : Int} (h : I64 raw) : I64 (wordF n raw) := by
  unfold wordF
  split
  · have h1 := Int.emod_nonneg n (show (24 : Int) ≠ 0 by omega)
    generalize n % 24 = y at *
    obtain ⟨k, rfl⟩ := Int.eq_ofNat_of_zero_le h1
    match k with
    | 0 | 1 | 2 | 3 | 4 | 5 | 6 | 7 | 8 | 9 => simp [edgesF, I64]
    | k + 10 => omega
  · split
    · have h1 := Int.emod_nonneg (n.tdiv 24) (show (17 : Int) ≠ 0 by omega)
      have h2 := Int.emod_lt_of_pos (n.tdiv 24) (show (0 : Int) < 17 by omega)
      unfold I64; omega
    · exact h

/-- What the generated nodes are like. -/
structure Good (out : List Nd) : Prop where
  base : ∃ r, out = baseN ++ r
  kids : ∀ nd ∈ out, okKids out.length nd.kids = true
  ok : ∀ nd ∈ out, NdOk nd

theorem okKids_mono {n m : Nat} {kids : List Int} (h : okKids n kids = true) (hm : n ≤ m) : okKids m kids = true := by
  simp only [okKids, List.all_eq_true, Bool.and_eq_true, decide_eq_true_eq] at h ⊢
  intro x hx
  have := h x hx
  omega

theorem kidsTo_ok (out : List Nd) (op x : Int) (j : Nat) (hb : ∃ r, out = baseN ++ r) : okKids out.length (kidsTo out op x j) = true := by
  simp only [okKids, List.all_eq_true, Bool.and_eq_true, decide_eq_true_eq]
  intro y hy
  obtain ⟨i, _, rfl⟩ := List.mem_map.1 hy
  obtain ⟨r, hr⟩ := hb
  have := ofF_spec out (operandSortF op i) ((seedsF x).getD i 0) (by rw [hr]; exact idxs_base r _ (operandSort_cases op i))
  exact ⟨this.1, this.2.1⟩

theorem nodeOf_ok (values : Bool) (out : List Nd) (x : Int) (hx : I64 x) : NdOk (nodeOf values out x) := by
  have h1 := op2F_range values x
  have h2 := nodeOf_small values out x
  have hw : I64 (imm2F x) := by
    unfold imm2F; split
    · exact wordF_i64 hx
    · unfold I64; omega
  have h3 := Int.emod_nonneg (x.tdiv 5) (show (2 : Int) ≠ 0 by omega)
  have h4 := Int.emod_lt_of_pos (x.tdiv 5) (show (0 : Int) < 2 by omega)
  refine ⟨by show I64 (op2F values x); unfold I64; omega, ?_, by omega⟩
  show I64 (imm4F _ _ (imm3F _ _ _))
  unfold imm4F imm3F
  split
  · unfold I64; omega
  · split
    · unfold I64; omega
    · exact hw

theorem Good.step {out : List Nd} (h : Good out) (values : Bool) (x : Int) (hx : I64 x) : Good (nodesStep values out x) := by
  refine ⟨nodesStep_base values out x h.base, ?_, ?_⟩
  · unfold nodesStep
    split
    · exact h.kids
    · intro nd hnd
      rcases List.mem_append.1 hnd with h1 | h1
      · exact okKids_mono (h.kids nd h1) (by simp)
      · simp at h1; subst h1
        exact okKids_mono (kidsTo_ok out _ x _ h.base) (by simp)
  · unfold nodesStep
    split
    · exact h.ok
    · intro nd hnd
      rcases List.mem_append.1 hnd with h1 | h1
      · exact h.ok nd h1
      · simp at h1; subst h1
        exact nodeOf_ok values out x hx

theorem good_base : Good baseN := ⟨⟨[], by simp⟩, by simp [baseN, okKids], by simp [baseN, NdOk, I64]⟩
theorem nodesF_good (values : Bool) (l : List Int) (hl : ∀ x ∈ l, I64 x) : Good (nodesF values l) :=
  foldl_inv Good (nodesStep values) _ _ good_base (fun _ b hb h => h.step values b (hl b (List.mem_of_mem_take hb)))
theorem Good.pos {out : List Nd} (h : Good out) : 3 ≤ out.length := by obtain ⟨r, rfl⟩ := h.base; simp [baseN]
theorem nodesF_len (values : Bool) (l : List Int) : (nodesF values l).length ≤ 17 := nodesTo_len values l 14
def clL (L : List Nd) (c : Nat → Nat) : List Int := (List.range L.length).map fun i => (c i : Int)
theorem clL_len (L : List Nd) (c : Nat → Nat) : (clL L c).length = L.length := by simp [clL]
theorem clL_get (L : List Nd) (c : Nat → Nat) {i : Nat} (h : i < (clL L c).length) : (clL L c)[i] = (c i : Int) := by simp [clL]
theorem IsCl.same {L : List Nd} {ps : List (Int × Int)} {c c' : Nat → Nat} (h : IsCl L ps c) (h' : IsCl L ps c') : clL L c = clL L c' := by
  unfold clL
  apply List.map_congr_left
  intro i hi
  rw [h.unique h' (List.mem_range.1 hi)]
theorem PairsV.take {w : World} {F : Nat → Prop} {A : Option Addr} {ps : List (Int × Int)} (h : PairsV w F A ps) (z : Nat) : PairsV w F A (ps.take z) := by
  rcases h with rfl | ⟨b, off, e, hF, hc⟩
  · exact .inl (by simp)
  · refine .inr ⟨b, off, e, hF, fun i hi => ?_⟩
    have hi' : i < ps.length := by simp at hi; omega
    simpa using hc i hi'
theorem Ints.all_ {w : World} {F : Nat → Prop} {A : Option Addr} {xs : List Int} (h : Ints w F A xs) (hne : 0 < xs.length) : ∃ b off, A = some ⟨b, off, none⟩ ∧ F b ∧ b < w.heap.size ∧ ∀ j (hj : j < xs.length), w.cell? ⟨b, off + j, none⟩ = some (.int .i64 xs[j]) := by
  rcases h with h | ⟨b, off, e, hF, hc⟩
  · have : xs = [] := by simpa using h
    subst this; simp at hne
  · refine ⟨b, off, e, hF, World.block_lt_of_cell? _ _ (hc 0 (by simpa using hne)), fun j hj => ?_⟩
    have := hc j (by simpa using hj)
    simpa using this
theorem clL_at {w : World} {F : Nat → Prop} {A : Option Addr} {L : List Nd} {c : Nat → Nat} (h : Ints w F A (clL L c)) (hne : 0 < L.length) : ∃ b off, A = some ⟨b, off, none⟩ ∧ F b ∧ b < w.heap.size ∧ ∀ j, j < L.length → w.cell? ⟨b, off + j, none⟩ = some (.int .i64 (c j : Int)) := by
  obtain ⟨b, off, e, hF, hb, hc⟩ := h.all_ (by rw [clL_len]; exact hne)
  exact ⟨b, off, e, hF, hb, fun j hj => by have := hc j (by rw [clL_len]; exact hj); rwa [clL_get] at this⟩
theorem getD_of {α : Type} {l : List α} {i : Nat} {d : α} (h : i < l.length) : l.getD i d = l[i] := by simp [List.getD, h]

theorem NodesV.take {w : World} {F : Nat → Prop} {A : Option Addr} {L : List Nd} (h : NodesV w F A L) (z : Nat) : NodesV w F A (L.take z) := by
  rcases h with rfl | ⟨b, off, e, hF, hc⟩
  · exact .inl (by simp)
  · refine .inr ⟨b, off, e, hF, fun i hi => ?_⟩
    have hi' : i < L.length := by simp at hi; omega
    simpa using hc i hi'

end Go.Proofs.Ytigambcefdeaoaa
