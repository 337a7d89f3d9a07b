/-
  A graph beside a set P of blocks that are none of its own; what New, Union, Rebuild, Find, Nodes, Steps do, said so.
-/
import Derived.Test.YtigambcefdeaoaaNewC
import Derived.Test.YtigambcefdeaoaaUniC
import Derived.Test.YtigambcefdeaoaaGRead
namespace Go.Proofs.Ytigambcefdeaoaa
open Go.RowKit

/-- gb is the graph G; the blocks in P are there and are none of its own. -/
def FG (P : Nat → Prop) (w : World) (gb : Nat) (G : EG) : Prop := ∃ ρ a, GM w ρ gb a G ∧ ∀ k, P k → k < w.heap.size ∧ ρ k = .no
/-- Only blocks outside P have turned. -/
def Out (P : Nat → Prop) : Nat → Prop := fun k => ¬ P k

section
variable {P Q : Nat → Prop} {w w' : World} {gb : Nat} {G G' : EG}
theorem FG.non (h : FG P w gb G) (u : Upd Non w w') : FG P w' gb G := by
  obtain ⟨ρ, a, h1, h2⟩ := h
  exact ⟨ρ, a, h1.non u, fun k hk => ⟨Nat.lt_of_lt_of_le (h2 k hk).1 u.size, (h2 k hk).2⟩⟩
theorem FG.mono (h : FG P w gb G) (hQ : ∀ k, Q k → P k) : FG Q w gb G := by
  obtain ⟨ρ, a, h1, h2⟩ := h
  exact ⟨ρ, a, h1, fun k hk => h2 k (hQ k hk)⟩
theorem FG.grow (h : FG P w gb G) (u : Upd Non w w') : FG (fun k => P k ∨ (w.heap.size ≤ k ∧ k < w'.heap.size)) w' gb G := by
  obtain ⟨ρ, a, h1, h2⟩ := h
  refine ⟨ρ, a, h1.non u, fun k hk => ?_⟩
  rcases hk with hk | hk
  · exact ⟨Nat.lt_of_lt_of_le (h2 k hk).1 u.size, (h2 k hk).2⟩
  · exact ⟨hk.2, Classical.byContradiction fun hne => by have := h1.bnd k hne; omega⟩
theorem FG.far {S : Nat → Prop} (h : FG P w gb G) (u : Upd S w w') (d : ∀ k, S k → P k) : FG P w' gb G := by
  obtain ⟨ρ, a, h1, h2⟩ := h
  exact ⟨ρ, a, h1.far u (fun k hk => (h2 k (d k hk)).2), fun k hk => ⟨Nat.lt_of_lt_of_le (h2 k hk).1 u.size, (h2 k hk).2⟩⟩
theorem FG.next {ρ : Nat → Role} (hP : ∀ k, P k → k < w.heap.size ∧ ρ k = .no) (n : Next w ρ gb w' G') : FG P w' gb G' ∧ Upd (Out P) w w' := by
  obtain ⟨ρ', a', h1, h2, h3⟩ := n
  exact ⟨⟨ρ', a', h1, fun k hk => ⟨Nat.lt_of_lt_of_le (hP k hk).1 h2.size, by rw [h3 k (hP k hk).1]; exact (hP k hk).2⟩⟩, h2.mono (fun k _ hm hk => hm (hP k hk).2)⟩
theorem FG.lt (h : FG P w gb G) : gb < w.heap.size := by obtain ⟨_, _, h1, _⟩ := h; exact h1.blk.lt
theorem FG.out (h : FG P w gb G) : ¬ P gb := fun hk => by
  obtain ⟨_, _, h1, h2⟩ := h
  have := (h2 gb hk).2
  rw [h1.me] at this
  cases this
end
theorem Upd.out_trans {P : Nat → Prop} {w w1 w2 : World} (h : Upd Non w w1) (k : Upd (Out P) w1 w2) (hP : ∀ i, i < w.heap.size → P i) : Upd Non w w2 := h.trans k (fun i hi hn => hn (hP i hi))
theorem Upd.out_non {P : Nat → Prop} {w w1 w2 : World} (h : Upd (Out P) w w1) (k : Upd Non w1 w2) : Upd (Out P) w w2 := h.trans k (fun _ _ f => f.elim)
theorem Upd.out_out {P : Nat → Prop} {w w1 w2 : World} (h : Upd (Out P) w w1) (k : Upd (Out P) w1 w2) : Upd (Out P) w w2 := h.trans k (fun _ _ f => f)
theorem Upd.non_out {P : Nat → Prop} {w w1 : World} (h : Upd Non w w1) : Upd (Out P) w w1 := h.mono (fun _ _ f => f.elim)

theorem uniG_wf {G : EG} {s : Stp} (h : GWf G) : GWf (uniG G s) := by
  unfold uniG
  split
  · rename_i hn
    simp only [uniNew, uniOk, Bool.and_eq_true, decide_eq_true_eq] at hn
    exact h.merge (by omega) (by omega)
  · exact h
theorem uniG_T (G : EG) (s : Stp) : (uniG G s).T.length ≤ G.T.length + 1 := by
  unfold uniG
  split
  · simp [EG.merge]
  · omega
theorem uniG_L (G : EG) (s : Stp) : (uniG G s).L = G.L := by
  unfold uniG
  split <;> rfl
theorem Reb.L_ {G G' : EG} {n : Nat} (h : Reb G n G') : G'.L = G.L := by
  induction h with
  | done _ => rfl
  | step _ _ ih => rw [ih]; rfl
theorem Reb.wf_ {G G' : EG} {n : Nat} (h : Reb G n G') (hg : GWf G) : GWf G' := by
  induction h with
  | done _ => exact hg
  | step hr _ ih => exact ih (hg.rebMerge hr).1
theorem Reb.T_ {G G' : EG} {n : Nat} (h : Reb G n G') : G'.T.length = G.T.length + n := by
  induction h with
  | done _ => rfl
  | step _ _ ih => rw [ih]; simp [EG.merge]; omega

section
variable (w : World) (P : Nat → Prop) (gb : Nat) (G : EG)
theorem fNew_c (F : Nat → Prop) (LA : Option Addr) (lc : Nat) (L : List Nd) (hL : NodesV w F LA L) (hlc : L.length ≤ lc) (hn : L.length ≤ 2000) (hok : ∀ nd ∈ L, NdOk nd) (hkk : ∀ nd ∈ L, nd.kids.length ≤ 100000000000) (hs : allSorted L) (hd : nodup L) :
    Calls Try.prog 10 #[.slice LA L.length lc] w fun e w' => ∃ gb, e = .returned (.tuple #[gp gb, .int .i64 0]) ∧ FG (· < w.heap.size) w' gb (newG L) ∧ Upd Non w w' := by
  refine (gNew_c w F LA lc L hL hlc (by omega) hok hkk).mono fun e w' ⟨hp, hu⟩ => ?_
  rcases hp with ⟨h, _⟩ | ⟨_, h, _⟩ | ⟨_, _, h, _⟩ | ⟨_, _, _, gb, ρ, a, he, hM, hr⟩
  · omega
  · exact absurd hs h
  · exact absurd hd h
  · exact ⟨gb, he, ⟨ρ, a, hM, fun k hk => ⟨Nat.lt_of_lt_of_le hk hu.size, Classical.byContradiction fun hne => by have := hr k hne; omega⟩⟩, hu⟩
theorem fUnion_c (h : FG P w gb G) (hg : GWf G) (hT : G.T.length ≤ 1000000000) (s : Stp) (VA MA : Option Addr) (vc mc : Nat) (hv : Ints w P VA s.vars) (hm : Ints w P MA s.imms) (hvl : s.vars.length ≤ 100000000000) (hml : s.imms.length ≤ 100000000000) :
    Calls Try.prog 11 #[gp gb, stpV s VA MA vc mc] w fun e w' => e = .returned (uniRet G s) ∧ FG P w' gb (uniG G s) ∧ Upd (Out P) w w' := by
  obtain ⟨ρ, a, hM, hP⟩ := h
  refine (gUnion_c w ρ gb a G hM hg.wf.small hT hg.wf.named s VA MA vc mc P hv hm (fun k _ hk => (hP k hk).2) hvl hml).mono fun e w' ⟨he, hn⟩ => ⟨he, FG.next hP hn⟩
theorem fRebuild_c (h : FG P w gb G) (hg : GWf G) (hT : G.T.length ≤ 900000000) :
    Calls Try.prog 13 #[gp gb] w fun e w' => ∃ n G', Reb G n G' ∧ n ≤ 2000 ∧ e = .returned (.int .i64 (n : Int)) ∧ FG P w' gb G' ∧ Upd (Out P) w w' := by
  obtain ⟨ρ, a, hM, hP⟩ := h
  refine (gRebuild_c w ρ gb a G hM hg hT).mono fun e w' ⟨n, G', h1, h2, h3, hn⟩ => ⟨n, G', h1, h2, h3, FG.next hP hn⟩
theorem fFind_c (h : FG P w gb G) (i : Int) : Calls Try.prog 12 #[gp gb, .int .i64 i] w fun e w' => e = .returned (.int .i64 (findF G i)) ∧ w = w' := by
  obtain ⟨ρ, a, hM, _⟩ := h
  exact gFind_c w ρ gb a G hM i
theorem fNodes_c (h : FG P w gb G) (hg : GWf G) :
    Calls Try.prog 17 #[gp gb] w fun e w' => ∃ A c, e = .returned (.slice A G.L.length c) ∧ NodesO w' (w.heap.size ≤ ·) A G.L.length c G.L ∧ (∀ k, At A k → w.heap.size ≤ k) ∧ Upd Non w w' := by
  obtain ⟨ρ, a, hM, _⟩ := h
  refine gNodes_c w ρ gb a G hM hg.wf.small (fun nd hnd => ?_)
  obtain ⟨i, hi, rfl⟩ := List.mem_iff_getElem.1 hnd
  have := hg.klen hi
  omega
theorem fSteps_c (h : FG P w gb G) (hn : G.T.length ≤ 1000000000) (hk : ∀ s ∈ G.T, s.vars.length ≤ 100000000000 ∧ s.imms.length ≤ 100000000000) :
    Calls Try.prog 14 #[gp gb] w fun e w' => ∃ A c, e = .returned (.slice A G.T.length c) ∧ StepsV w' (w.heap.size ≤ ·) A G.T ∧ Upd Non w w' := by
  obtain ⟨ρ, a, hM, _⟩ := h
  exact gSteps_c w ρ gb a G hM hn hk
end
end Go.Proofs.Ytigambcefdeaoaa
