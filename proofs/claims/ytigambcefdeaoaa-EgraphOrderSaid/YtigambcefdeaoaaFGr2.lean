/-
  Two graphs side by side in memory. No condition of its own.
-/
import Derived.Test.YtigambcefdeaoaaFGr
namespace Go.Proofs.Ytigambcefdeaoaa
open Go.RowKit

/-- gb1 is G1, gb2 is G2, no block belongs to both; none below B belongs to either. -/
def FG2 (B : Nat) (w : World) (gb1 : Nat) (G1 : EG) (gb2 : Nat) (G2 : EG) : Prop :=
  ∃ ρ1 a1 ρ2 a2, GM w ρ1 gb1 a1 G1 ∧ GM w ρ2 gb2 a2 G2 ∧ (∀ k, k < B → ρ1 k = .no ∧ ρ2 k = .no) ∧ ∀ k, ρ1 k = .no ∨ ρ2 k = .no
section
variable {B : Nat} {w w' : World} {gb1 gb2 : Nat} {G1 G2 : EG}
theorem FG2.swap (h : FG2 B w gb1 G1 gb2 G2) : FG2 B w gb2 G2 gb1 G1 := by
  obtain ⟨ρ1, a1, ρ2, a2, h1, h2, h3, h4⟩ := h
  exact ⟨ρ2, a2, ρ1, a1, h2, h1, fun k hk => (h3 k hk).symm, fun k => (h4 k).symm⟩
theorem FG2.non (h : FG2 B w gb1 G1 gb2 G2) (u : Upd Non w w') : FG2 B w' gb1 G1 gb2 G2 := by
  obtain ⟨ρ1, a1, ρ2, a2, h1, h2, h3, h4⟩ := h
  exact ⟨ρ1, a1, ρ2, a2, h1.non u, h2.non u, h3, h4⟩
theorem FG2.of {B' : Nat} (h : FG (· < B) w gb1 G1) (hB : B ≤ w.heap.size) {w2 w3 : World} (u : Upd Non w w2) (h2 : FG (· < w2.heap.size) w3 gb2 G2) (u2 : Upd Non w2 w3) (hB' : B' ≤ B) : FG2 B' w3 gb1 G1 gb2 G2 := by
  obtain ⟨ρ1, a1, g1, p1⟩ := h
  obtain ⟨ρ2, a2, g2, p2⟩ := h2
  have hs := u.size
  refine ⟨ρ1, a1, ρ2, a2, (g1.non u).non u2, g2, fun k hk => ⟨(p1 k (by show k < B; omega)).2, (p2 k (by show k < w2.heap.size; omega)).2⟩, fun k => ?_⟩
  by_cases hk : k < w2.heap.size
  · exact .inr (p2 k hk).2
  · exact .inl (Classical.byContradiction fun hne => by have := g1.bnd k hne; omega)
theorem FG2.left (h : FG2 B w gb1 G1 gb2 G2) : FG (· < min B w.heap.size) w gb1 G1 := by
  obtain ⟨ρ1, a1, ρ2, a2, h1, h2, h3, h4⟩ := h
  exact ⟨ρ1, a1, h1, fun k hk => ⟨by have : k < min B w.heap.size := hk; omega, (h3 k (by have : k < min B w.heap.size := hk; omega)).1⟩⟩
theorem FG2.next {ρ1 ρ2 : Nat → Role} {a2 : GA} {G' : EG} (n : Next w ρ1 gb1 w' G') (h2 : GM w ρ2 gb2 a2 G2) (h3 : ∀ k, k < B → ρ1 k = .no ∧ ρ2 k = .no) (h4 : ∀ k, ρ1 k = .no ∨ ρ2 k = .no) (hB : B ≤ w.heap.size) : FG2 B w' gb1 G' gb2 G2 ∧ Upd (B ≤ ·) w w' := by
  obtain ⟨ρ', a', g1, u, e⟩ := n
  have g2 : GM w' ρ2 gb2 a2 G2 := h2.far u (fun k hk => (h4 k).resolve_left hk)
  refine ⟨⟨ρ', a', ρ2, a2, g1, g2, fun k hk => ⟨by rw [e k (by omega)]; exact (h3 k hk).1, (h3 k hk).2⟩, fun k => ?_⟩, u.mono (fun k _ hm => ?_)⟩
  · by_cases hk : k < w.heap.size
    · rw [e k hk]; exact h4 k
    · exact .inr (Classical.byContradiction fun hne => by have := h2.bnd k hne; omega)
  · exact Nat.le_of_not_lt fun hlt => hm (h3 k hlt).1
end
theorem Upd.old {B : Nat} {w w' : World} (h : Upd (B ≤ ·) w w') {w0 : World} (h0 : Upd Non w0 w) (hB : w0.heap.size ≤ B) : Upd Non w0 w' := h0.trans h (fun i hi hb => by have : B ≤ i := hb; omega)

theorem f2Union_c (w : World) (B gb1 gb2 : Nat) (G1 G2 : EG) (h : FG2 B w gb1 G1 gb2 G2) (hB : B ≤ w.heap.size) (hg : GWf G1) (hT : G1.T.length ≤ 1000000000) (s : Stp) (hv : s.vars = []) (hm : s.imms = []) :
    Calls Try.prog 11 #[gp gb1, .agg #[.int .i64 s.l, .int .i64 s.r, .int .i64 s.why, .slice none 0 0, .slice none 0 0]] w fun e w' => e = .returned (uniRet G1 s) ∧ FG2 B w' gb1 (uniG G1 s) gb2 G2 ∧ Upd (B ≤ ·) w w' := by
  obtain ⟨l, r, y, vs, ms⟩ := s
  dsimp only at hv hm
  subst hv; subst hm
  obtain ⟨ρ1, a1, ρ2, a2, h1, h2, h3, h4⟩ := h
  exact (gUnion_c w ρ1 gb1 a1 G1 h1 hg.wf.small hT hg.wf.named ⟨l, r, y, [], []⟩ none none 0 0 Non .nil .nil (fun _ _ f => f.elim) (by simp) (by simp)).mono fun e w' ⟨he, hn⟩ => ⟨he, FG2.next hn h2 h3 h4 hB⟩
theorem f2Rebuild_c (w : World) (B gb1 gb2 : Nat) (G1 G2 : EG) (h : FG2 B w gb1 G1 gb2 G2) (hB : B ≤ w.heap.size) (hg : GWf G1) (hT : G1.T.length ≤ 900000000) :
    Calls Try.prog 13 #[gp gb1] w fun e w' => ∃ n G', Reb G1 n G' ∧ n ≤ 2000 ∧ e = .returned (.int .i64 (n : Int)) ∧ FG2 B w' gb1 G' gb2 G2 ∧ Upd (B ≤ ·) w w' := by
  obtain ⟨ρ1, a1, ρ2, a2, h1, h2, h3, h4⟩ := h
  exact (gRebuild_c w ρ1 gb1 a1 G1 h1 hg hT).mono fun e w' ⟨n, G', q1, q2, q3, hn⟩ => ⟨n, G', q1, q2, q3, FG2.next hn h2 h3 h4 hB⟩
theorem f2Find_c (w : World) (B gb1 gb2 : Nat) (G1 G2 : EG) (h : FG2 B w gb1 G1 gb2 G2) (i : Int) : Calls Try.prog 12 #[gp gb1, .int .i64 i] w fun e w' => e = .returned (.int .i64 (findF G1 i)) ∧ w = w' := by
  obtain ⟨ρ1, a1, ρ2, a2, h1, h2, h3, h4⟩ := h
  exact gFind_c w ρ1 gb1 a1 G1 h1 i
end Go.Proofs.Ytigambcefdeaoaa
