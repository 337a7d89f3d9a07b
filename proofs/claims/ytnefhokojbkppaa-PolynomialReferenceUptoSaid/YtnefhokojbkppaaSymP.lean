/-
  What PolynomialSymmetric leans on, in plain terms: a rule whose left side was numbered is valid if its reverse is. No condition of its own.
-/
import Derived.Test.YtnefhokojbkppaaPPrv
import Derived.Test.YtnefhokojbkppaaKRul
namespace Go.Proofs.Ytnefhokojbkppaa
open Go.RowKit

mutual
theorem num_all : ∀ (p : Pt) (vs ms : List Int) (i : Nat), vs.length < i → i ≤ (numF p vs ms).2.1.length → ∃ q ∈ nodes (numF p vs ms).1, q.v = (i : Int)
  | .mk v op imm iv kids, vs, ms, i, h1, h2 => by
    by_cases hv : 0 < v
    · rw [numF_var (p := .mk v op imm iv kids) hv] at h2 ⊢
      simp only [Pt.v, Pt.op, Pt.imm, Pt.iv, Pt.kids] at h2 ⊢
      unfold numV at h2 ⊢
      cases hf : findG vs v 0 with
      | some j => rw [hf] at h2; simp only at h2; omega
      | none =>
        rw [hf] at h2
        simp only [List.length_append, List.length_singleton] at h2
        refine ⟨_, by rw [nodes_eq]; exact List.mem_cons_self, ?_⟩
        show (vs.length : Int) + 1 = (i : Int)
        omega
    · rw [numF_op (p := .mk v op imm iv kids) hv] at h2 ⊢
      simp only [Pt.v, Pt.op, Pt.imm, Pt.iv, Pt.kids] at h2 ⊢
      obtain ⟨q, hq, e⟩ := numL_all kids vs (numI ms iv).2 i h1 h2
      exact ⟨q, by rw [nodes_eq]; exact List.mem_cons_of_mem _ hq, e⟩
theorem numL_all : ∀ (l : List Pt) (vs ms : List Int) (i : Nat), vs.length < i → i ≤ (numL l vs ms).2.1.length → ∃ q ∈ nodesL (numL l vs ms).1, q.v = (i : Int)
  | [], vs, ms, i, h1, h2 => by simp only [numL] at h2; omega
  | k :: ks, vs, ms, i, h1, h2 => by
    simp only [numL] at h2 ⊢
    simp only [nodesL, List.mem_append]
    by_cases h : i ≤ (numF k vs ms).2.1.length
    · obtain ⟨q, hq, e⟩ := num_all k vs ms i h1 h
      exact ⟨q, .inl hq, e⟩
    · obtain ⟨q, hq, e⟩ := numL_all ks _ _ i (by omega) h2
      exact ⟨q, .inr hq, e⟩
end
theorem side_nodes {op : Int} {p q : Pt} (h : q ∈ nodes p) : q ∈ nodes (sideF op p) := by
  unfold sideF
  split
  · rw [nodes_eq]
    refine List.mem_cons_of_mem _ ?_
    simp only [Pt.kids, nodesL, List.append_nil]
    exact h
  · exact h
theorem side_root {op : Int} {p : Pt} {s m : Int} {n : Nat} (h : shp (sideF op p) s m n = true) : (sideF op p).v = 0 := by
  unfold sideF at h ⊢
  split
  · rfl
  · rename_i hv
    rw [if_neg hv] at h
    by_cases h0 : p.v = 0
    · exact h0
    · rw [shp_var h0, decide_eq_true_eq] at h
      omega
/-- The reverse of a rule. -/
def revF (r : Rl) : Rl := ⟨r.name, r.r, r.l, r.conds, r.vars, r.imms⟩
def bothF (q R : Pt) : Rl := ⟨⟨#[114]⟩, sideF 20 (numF q [] []).1, R, [], (numF q [] []).2.1.length, 0⟩
theorem rev_ok {q R : Pt} (h : RuleOk (revF (bothF q R))) : RuleOk (bothF q R) := by
  obtain ⟨h1, h2, h3, h4, h5, h6, h7, h8, h9, h10, h11, h12⟩ := h
  have hv : (sideF 20 (numF q [] []).1).v = 0 := side_root h8
  have ho : (oSortsF R.op).2.1 = (oSortsF (sideF 20 (numF q [] []).1).op).2.1 := by
    have hw : (oSortsF R.op).2.1 = 1 ∨ (oSortsF R.op).2.1 = 2 := osort_own (shp_ok h5 h7)
    exact shp_root h8 (by show (oSortsF R.op).2.1 ≠ 0; omega) hv
  have hl : shp (sideF 20 (numF q [] []).1) 0 0 (numF q [] []).2.1.length = true := by
    have := shp_sort h8
    simpa [revF, bothF] using this
  refine ⟨h1, h2, h3, h4, hv, ⟨h6.2, h6.1⟩, ?_, ?_, fun i hi1 hi2 => ?_, fun i s s' a b => ?_, fun i hi1 hi2 => ?_, fun c hc => by cases hc⟩
  · simpa [bothF] using hl
  · refine shp_own h7 (fun _ => ?_)
    exact ho.symm
  · have hn : i ≤ (numF q [] []).2.1.length := by simpa [bothF] using hi2
    obtain ⟨z, hz, e⟩ := num_all q [] [] i hi1 hn
    exact (((shp_nodes _ _ _ _ hl).1 i (by omega)).1 ⟨z, side_nodes hz, e⟩)
  · have e1 : ∀ t, occ (bothF q R).l t = occ (revF (bothF q R)).r (oSortsF (revF (bothF q R)).l.op).2.1 := fun t => occ_root hv _ _
    have e2 : ∀ t, occ (bothF q R).r t = occ (revF (bothF q R)).l 0 := fun t => occ_root h5 _ _
    rw [e1, e2] at a b
    refine h10 i s s' ?_ ?_
    · rw [List.mem_append] at a ⊢; exact a.symm
    · rw [List.mem_append] at b ⊢; exact b.symm
  · simp [bothF] at hi2
    omega
theorem rev_prove {q R : Pt} (h : ProveP (revF (bothF q R))) : ProveP (bothF q R) := by
  obtain ⟨h1, l, l', e1, e2, e3⟩ := h
  exact ⟨ok_imp (rev_ok (imp_ok h1)), l', l, e2, e1, e3.symm⟩
/-- Prove finds the same for a rule and its reverse, if the reverse is proved. -/
theorem rev_same {q R : Pt} {b : Bool} {ms ms' : List Mn} (h : MsIs (bothF q R) b ms) (g : MsIs (revF (bothF q R)) true ms') : b = true ∧ ms = ms' := by
  obtain ⟨h1, h2, h3⟩ := h
  obtain ⟨g1, g2, g3⟩ := g
  have hp := rev_prove (g1.1 rfl)
  have hb := h1.2 hp
  refine ⟨hb, ?_⟩
  obtain ⟨x, rfl, z⟩ := h3 hb
  obtain ⟨y, rfl, z'⟩ := g3 rfl
  obtain ⟨_, l, l', e1, e2, e3⟩ := hp
  exact (same_of z z' (.inr ⟨l, l', e1, e2, e3⟩)).2
end Go.Proofs.Ytnefhokojbkppaa
