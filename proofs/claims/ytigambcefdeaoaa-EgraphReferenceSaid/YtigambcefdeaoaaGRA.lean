/-
  A graph and a reference graph side by side in memory.
  What agrees does: every method of a graph agrees with the reference.
-/
import Derived.Test.YtigambcefdeaoaaRAd
import Derived.Test.YtigambcefdeaoaaRNd
import Derived.Test.YtigambcefdeaoaaRRb
import Derived.Test.YtigambcefdeaoaaFGr
import Derived.Test.YtigambcefdeaoaaSameC
import Derived.Test.YtigambcefdeaoaaSame
namespace Go.Proofs.Ytigambcefdeaoaa
open Go.RowKit

/-- gb is the graph G1, rb the reference's G2; no block belongs to both; those of P are not written. -/
def GR (P : Nat → Prop) (w : World) (gb : Nat) (G1 : EG) (rb : Nat) (G2 : EG) : Prop :=
  ∃ ρ1 a1 ρ2 a2, GM w ρ1 gb a1 G1 ∧ RM w ρ2 rb a2 G2 ∧ (∀ k, ρ1 k ≠ .no → ρ2 k = .no) ∧ ∀ k, P k → k < w.heap.size ∧ ρ1 k = .no ∧ (ρ2 k = .no ∨ ρ2 k = .kids)
section
variable {P Q : Nat → Prop} {w w' : World} {gb rb : Nat} {G1 G2 G' : EG}
theorem GR.non (h : GR P w gb G1 rb G2) (u : Upd Non w w') : GR P w' gb G1 rb G2 := by
  obtain ⟨ρ1, a1, ρ2, a2, h1, h2, h3, h4⟩ := h
  exact ⟨ρ1, a1, ρ2, a2, h1.non u, h2.non u, h3, fun k hk => ⟨Nat.lt_of_lt_of_le (h4 k hk).1 u.size, (h4 k hk).2⟩⟩
theorem GR.mono (h : GR P w gb G1 rb G2) (hQ : ∀ k, Q k → P k) : GR Q w gb G1 rb G2 := by
  obtain ⟨ρ1, a1, ρ2, a2, h1, h2, h3, h4⟩ := h
  exact ⟨ρ1, a1, ρ2, a2, h1, h2, h3, fun k hk => h4 k (hQ k hk)⟩
theorem GR.grow (h : GR P w gb G1 rb G2) (u : Upd Non w w') : GR (fun k => P k ∨ (w.heap.size ≤ k ∧ k < w'.heap.size)) w' gb G1 rb G2 := by
  obtain ⟨ρ1, a1, ρ2, a2, h1, h2, h3, h4⟩ := h
  refine ⟨ρ1, a1, ρ2, a2, h1.non u, h2.non u, h3, fun k hk => ?_⟩
  rcases hk with hk | hk
  · exact ⟨Nat.lt_of_lt_of_le (h4 k hk).1 u.size, (h4 k hk).2⟩
  · exact ⟨hk.2, Classical.byContradiction fun hne => by have := h1.bnd k hne; omega, .inl (Classical.byContradiction fun hne => by have := h2.bnd k hne; omega)⟩
theorem GR.lt1 (h : GR P w gb G1 rb G2) : gb < w.heap.size := by obtain ⟨_, _, _, _, h1, _⟩ := h; exact h1.blk.lt
theorem GR.lt2 (h : GR P w gb G1 rb G2) : rb < w.heap.size := by obtain ⟨_, _, _, _, _, h2, _⟩ := h; exact h2.blk.lt
theorem GR.left {ρ1 ρ2 : Nat → Role} {a2 : RA} (n : Next w ρ1 gb w' G') (h2 : RM w ρ2 rb a2 G2) (h3 : ∀ k, ρ1 k ≠ .no → ρ2 k = .no) (h4 : ∀ k, P k → k < w.heap.size ∧ ρ1 k = .no ∧ (ρ2 k = .no ∨ ρ2 k = .kids)) : GR P w' gb G' rb G2 ∧ Upd (Out P) w w' := by
  obtain ⟨ρ', a', g1, u, e⟩ := n
  refine ⟨⟨ρ', a', ρ2, a2, g1, h2.far u (fun k hk => h3 k hk), fun k hk => ?_, fun k hk => ⟨Nat.lt_of_lt_of_le (h4 k hk).1 u.size, by rw [e k (h4 k hk).1]; exact (h4 k hk).2.1, (h4 k hk).2.2⟩⟩, u.mono (fun k _ hm hk => hm (h4 k hk).2.1)⟩
  by_cases q : k < w.heap.size
  · rw [e k q] at hk; exact h3 k hk
  · exact Classical.byContradiction fun hne => by have := h2.bnd k hne; omega
theorem GR.right {ρ1 ρ2 : Nat → Role} {a1 : GA} (n : RNext w ρ2 rb w' G') (h1 : GM w ρ1 gb a1 G1) (h3 : ∀ k, ρ1 k ≠ .no → ρ2 k = .no) (h4 : ∀ k, P k → k < w.heap.size ∧ ρ1 k = .no ∧ (ρ2 k = .no ∨ ρ2 k = .kids)) : GR P w' gb G1 rb G' ∧ Upd (Out P) w w' := by
  obtain ⟨ρ', a', g2, u, e⟩ := n
  refine ⟨⟨ρ1, a1, ρ', a', h1.far u (fun k hk => Classical.byContradiction fun hne => hk.1 (h3 k hne)), g2, fun k hk => ?_, fun k hk => ⟨Nat.lt_of_lt_of_le (h4 k hk).1 u.size, (h4 k hk).2.1, by rw [e k (h4 k hk).1]; exact (h4 k hk).2.2⟩⟩, u.mono (fun k _ hm hk => ?_)⟩
  · rw [e k (h1.bnd k hk)]; exact h3 k hk
  · rcases (h4 k hk).2.2 with q | q
    · exact hm.1 q
    · exact hm.2 q
end
theorem RM.tv {w : World} {ρ : Nat → Role} {rb : Nat} {a : RA} {G : EG} (h : RM w ρ rb a G) : StepsV w (fun k => ρ k = .steps ∨ ρ k = .vars) a.t G.T := by
  obtain ⟨cs, h1, h2, h3⟩ := h.t
  exact steps_view h1 (h2.mono (Upd.refl (S := Non)) (fun _ _ _ f => f) (fun k _ hk => .inr hk)) (fun k hk => .inl (h3 k hk))

section
variable (w : World) (P : Nat → Prop) (gb rb : Nat) (G1 G2 : EG)
theorem grUnion1_c (h : GR P w gb G1 rb G2) (hg : GWf G1) (hT : G1.T.length ≤ 1000000000) (s : Stp) (VA MA : Option Addr) (vc mc : Nat) (hv : Ints w P VA s.vars) (hm : Ints w P MA s.imms) (hvl : s.vars.length ≤ 100000000000) (hml : s.imms.length ≤ 100000000000) :
    Calls Try.prog 11 #[gp gb, stpV s VA MA vc mc] w fun e w' => e = .returned (uniRet G1 s) ∧ GR P w' gb (uniG G1 s) rb G2 ∧ Upd (Out P) w w' := by
  obtain ⟨ρ1, a1, ρ2, a2, h1, h2, h3, h4⟩ := h
  exact (gUnion_c w ρ1 gb a1 G1 h1 hg.wf.small hT hg.wf.named s VA MA vc mc P hv hm (fun k _ hk => (h4 k hk).2.1) hvl hml).mono fun e w' ⟨he, hn⟩ => ⟨he, GR.left hn h2 h3 h4⟩
theorem grUnion2_c (h : GR P w gb G1 rb G2) (hg : GWf G2) (hT : G2.T.length ≤ 1000000000) (s : Stp) (VA MA : Option Addr) (vc mc : Nat) (hv : Ints w P VA s.vars) (hm : Ints w P MA s.imms) (hvl : s.vars.length ≤ 100000000000) (hml : s.imms.length ≤ 100000000000) :
    Calls Try.prog 30 #[gp rb, stpV s VA MA vc mc] w fun e w' => e = .returned (uniRet G2 s) ∧ GR P w' gb G1 rb (uniG G2 s) ∧ Upd (Out P) w w' := by
  obtain ⟨ρ1, a1, ρ2, a2, h1, h2, h3, h4⟩ := h
  exact (rUnion_c w ρ2 rb a2 G2 h2 hg hT s VA MA vc mc P hv hm hvl hml).mono fun e w' ⟨he, hn⟩ => ⟨he, GR.right hn h1 h3 h4⟩
theorem grRebuild1_c (h : GR P w gb G1 rb G2) (hg : GWf G1) (hT : G1.T.length ≤ 900000000) :
    Calls Try.prog 13 #[gp gb] w fun e w' => ∃ n G', Reb G1 n G' ∧ n ≤ 2000 ∧ e = .returned (.int .i64 (n : Int)) ∧ GR P w' gb G' rb G2 ∧ Upd (Out P) w w' := by
  obtain ⟨ρ1, a1, ρ2, a2, h1, h2, h3, h4⟩ := h
  exact (gRebuild_c w ρ1 gb a1 G1 h1 hg hT).mono fun e w' ⟨n, G', q1, q2, q3, hn⟩ => ⟨n, G', q1, q2, q3, GR.left hn h2 h3 h4⟩
theorem grRebuild2_c (h : GR P w gb G1 rb G2) (hg : GWf G2) (hT : G2.T.length ≤ 900000000) :
    Calls Try.prog 29 #[gp rb] w fun e w' => ∃ n G', Reb G2 n G' ∧ n ≤ 2000 ∧ e = .returned (.int .i64 (n : Int)) ∧ GR P w' gb G1 rb G' ∧ Upd (Out P) w w' := by
  obtain ⟨ρ1, a1, ρ2, a2, h1, h2, h3, h4⟩ := h
  exact (rRebuild_c w ρ2 rb a2 G2 h2 hg hT).mono fun e w' ⟨n, G', q1, q2, q3, hn⟩ => ⟨n, G', q1, q2, q3, GR.right hn h1 h3 h4⟩
theorem grAdd1_c (h : GR P w gb G1 rb G2) (hg : GWf G1) (hT : G1.T.length ≤ 900000000) (op imm : Int) (kids : List Int) (KA : Option Addr) (kc : Nat) (hk : Ints w P KA kids) (hkc : kids.length ≤ kc) (hok : NdOk ⟨op, imm, kids⟩) (hkl : kids.length ≤ 100000000000) :
    Calls Try.prog 22 #[gp gb, .agg #[.int .i64 op, .int .i64 imm, .slice KA kids.length kc]] w fun e w' => e = .returned (addRet G1 ⟨op, imm, kids⟩) ∧ GR P w' gb (addG G1 ⟨op, imm, kids⟩) rb G2 ∧ Upd (Out P) w w' := by
  obtain ⟨ρ1, a1, ρ2, a2, h1, h2, h3, h4⟩ := h
  exact (gAdd_c w ρ1 gb a1 G1 h1 hg hT op imm kids KA kc P hk hkc (fun k _ hk => (h4 k hk).2.1) hok hkl).mono fun e w' ⟨he, hn⟩ => ⟨he, GR.left hn h2 h3 h4⟩
theorem grAdd2_c (h : GR P w gb G1 rb G2) (hg : GWf G2) (hT : G2.T.length ≤ 900000000) (op imm : Int) (kids : List Int) (KA : Option Addr) (kc : Nat) (hk : Ints w P KA kids) (hok : NdOk ⟨op, imm, kids⟩) (hkl : kids.length ≤ 100000000000) :
    Calls Try.prog 28 #[gp rb, .agg #[.int .i64 op, .int .i64 imm, .slice KA kids.length kc]] w fun e w' => e = .returned (addRet G2 ⟨op, imm, kids⟩) ∧ GR P w' gb G1 rb (addG G2 ⟨op, imm, kids⟩) ∧ Upd (Out P) w w' := by
  obtain ⟨ρ1, a1, ρ2, a2, h1, h2, h3, h4⟩ := h
  exact (rAdd_c w ρ2 rb a2 G2 h2 hg hT op imm kids KA kc P hk hok hkl).mono fun e w' ⟨he, hn⟩ => ⟨he, GR.right hn h1 h3 h4⟩
end
theorem Reb.fun_ {G G1 G2 : EG} {n m : Nat} (h1 : Reb G n G1) (h2 : Reb G m G2) : n = m ∧ G1 = G2 := by
  induction h1 generalizing m with
  | done e => cases h2 with
    | done _ => exact ⟨rfl, rfl⟩
    | step e2 _ => rw [e] at e2; cases e2
  | step e _ ih => cases h2 with
    | done e2 => rw [e] at e2; cases e2
    | step e2 h2 =>
      rw [e] at e2
      injection e2 with e2
      injection e2 with p1 p2
      subst p1; subst p2
      obtain ⟨q1, q2⟩ := ih h2
      exact ⟨by rw [q1], q2⟩
end Go.Proofs.Ytigambcefdeaoaa

namespace Go.Proofs.Ytigambcefdeaoaa
open Go.RowKit

set_option maxRecDepth 100000 in
set_option maxHeartbeats 4000000 in
theorem agrees_c (w : World) (P : Nat → Prop) (gb rb : Nat) (G : EG) (h : GR P w gb G rb G) (hg : GWf G) (hT : G.T.length ≤ 1000000000) (hk : ∀ s ∈ G.T, s.vars.length ≤ 100000000000 ∧ s.imms.length ≤ 100000000000) :
    Calls Try.prog 31 #[gp gb, gp rb] w fun e w' => e = .returned (.bool true) ∧ Upd Non w w' := by
  obtain ⟨ρ1, a1, ρ2, a2, h1, h2, _, _⟩ := h
  have hsm := hg.wf.small
  have HK := Lib.hid hk
  have HKK : Hid (∀ nd ∈ G.L, nd.kids.length ≤ 100000000000) := fun nd hnd => by
    obtain ⟨i, hi, rfl⟩ := List.mem_iff_getElem.1 hnd
    have := hg.klen hi
    omega
  have c0 := h2.c0
  have c1 := h2.c1
  have hr := h2.blk.lt
  have H1 := Lib.hid h1
  have H2 := Lib.hid h2
  have HG := Lib.hid hg
  unfold gp
  have C1 := Lib.hid (gNodes_c w.drew ρ1 gb a1 G (h1.non (Upd.refl.drew (S := Non))) hsm HKK.out)
  unfold gp at C1
  clear h1 h2 hg hk
  go_enter Try.func31, Try.ntmps31
  go_wp2_with fail
  have hS : ∀ w', Upd Non w w' → w'.cell? ⟨rb, 0, none⟩ = some (.slice a2.l G.L.length a2.lc) ∧ w'.cell? ⟨rb, 1, none⟩ = some (.slice a2.t G.T.length a2.tc) := fun w' u => ⟨cell_upd c0 u (fun f => f), cell_upd c1 u (fun f => f)⟩
  refine wp_region_held_drew (S := fun w' => w'.cell? ⟨rb, 0, none⟩ = some (.slice a2.l G.L.length a2.lc) ∧ w'.cell? ⟨rb, 1, none⟩ = some (.slice a2.t G.T.length a2.tc)) (by kernel_rfl) (hS _ (Upd.refl (S := Non)).drew) (fun hHeld => ?_)
  refine wpAnyH_take (i := 0) (v := ?_) rfl (by kernel_rfl) (by kernel_rfl) (by kernel_rfl) (fun _ _ _ h => h) (Or.inl ⟨by rfl, ?_⟩) (by assumption) ?_
  rotate_left
  · intro w hSw; (try dsimp only at hSw); go_simp; try with_reducible rfl
  try simp only [put_y]
  try simp only [Act.put]
  try simp only [put_z]
  refine wpAnyH_take (i := 2) (v := ?_) rfl (by kernel_rfl) (by kernel_rfl) (by kernel_rfl) (fun _ _ _ h => h) (Or.inl ⟨by rfl, ?_⟩) (by assumption) ?_
  rotate_left
  · intro w hSw; (try dsimp only at hSw); go_simp; try with_reducible rfl
  try simp only [put_y]
  try simp only [Act.put]
  try simp only [put_z]
  refine wpAnyH_take (i := 3) (v := ?_) rfl (by kernel_rfl) (by kernel_rfl) (by kernel_rfl) (fun _ _ _ h => h) (Or.inl ⟨by rfl, ?_⟩) (by assumption) ?_
  rotate_left
  · intro w hSw; (try dsimp only at hSw); go_simp; try with_reducible rfl
  try simp only [put_y]
  try simp only [Act.put]
  try simp only [put_z]
  refine wpAnyH_take (i := 4) (v := ?_) rfl (by kernel_rfl) (by kernel_rfl) (by kernel_rfl) (fun _ _ _ h => h) (Or.inl ⟨by rfl, ?_⟩) (by assumption) ?_
  rotate_left
  · intro w hSw; (try dsimp only at hSw); go_simp; try with_reducible rfl
  try simp only [put_y]
  try simp only [Act.put]
  try simp only [put_z]
  refine wpAnyH_take (i := 5) (v := ?_) rfl (by kernel_rfl) (by kernel_rfl) (by kernel_rfl) (fun _ _ _ h => h) (Or.inl ⟨by rfl, ?_⟩) (by assumption) ?_
  rotate_left
  · intro w hSw; (try dsimp only at hSw); go_simp; try with_reducible rfl
  try simp only [put_y]
  try simp only [Act.put]
  try simp only [put_z]
  refine wpAnyH_ready (rs := [1]) (by kernel_rfl) (by simp) ?_
  refine AllReadyH.cons rfl (fun K hK => ?_) AllReadyH.nil
  go_simp
  refine C1.out.mono ?_
  rintro e w1 ⟨A1, k1, rfl, hN1, _, hu1'⟩
  have hu1 : Upd Non w w1 := Upd.refl.drew.then_non hu1'
  have hV1 := hN1.view (F := fun _ => True) (fun _ _ => trivial) (fun _ _ _ => trivial)
  have hM1 := H2.out.non hu1
  have C2 := Lib.hid (sameNodes_c w1 _ _ A1 a2.l k1 a2.lc G.L hV1 hM1.lv (by omega) (fun nd hnd => by have := HKK.out nd hnd; omega))
  go_wp2_with fail
  refine hK.out _ _ ?_ (fun hHeld => ?_)
  · exact hS _ hu1
  clear hK K
  try simp only [put_y]
  try simp only [Act.put]
  try simp only [put_z]
  refine wpAnyH_ready (rs := [6]) (by kernel_rfl) (by simp) ?_
  refine AllReadyH.cons rfl (fun K hK => ?_) AllReadyH.nil
  go_simp
  refine C2.out.mono ?_
  rintro e w2 ⟨rfl, hu2'⟩
  have hu2 := hu1.then_non hu2'
  go_wp2_with fail
  refine hK.out _ _ ?_ (fun hHeld => ?_)
  · exact hS _ hu2
  clear hK K
  try simp only [put_y]
  try simp only [Act.put]
  try simp only [put_z]
  refine wpAnyH_take (i := 7) (v := ?_) rfl (by kernel_rfl) (by kernel_rfl) (by kernel_rfl) (fun _ _ _ h => h) (Or.inl ⟨by rfl, ?_⟩) (by assumption) ?_
  rotate_left
  · intro w hSw; (try dsimp only at hSw); go_simp; try with_reducible rfl
  try simp only [put_y]
  try simp only [Act.put]
  try simp only [put_z]
  refine wpAnyH_take (i := 8) (v := ?_) rfl (by kernel_rfl) (by kernel_rfl) (by kernel_rfl) (fun _ _ _ h => h) (Or.inl ⟨by rfl, ?_⟩) (by assumption) ?_
  rotate_left
  · intro w hSw; (try dsimp only at hSw); go_simp; try with_reducible rfl
  try simp only [put_y]
  try simp only [Act.put]
  try simp only [put_z]
  refine wpAnyH_take (i := 9) (v := ?_) rfl (by kernel_rfl) (by kernel_rfl) (by kernel_rfl) (fun _ _ _ h => h) (Or.inl ⟨by rfl, ?_⟩) (by assumption) ?_
  rotate_left
  · intro w hSw; (try dsimp only at hSw); go_simp; try with_reducible rfl
  try simp only [put_y]
  try simp only [Act.put]
  try simp only [put_z]
  refine wpAnyH_take (i := 11) (v := ?_) rfl (by kernel_rfl) (by kernel_rfl) (by kernel_rfl) (fun _ _ _ h => h) (Or.inl ⟨by rfl, ?_⟩) (by assumption) ?_
  rotate_left
  · intro w hSw; (try dsimp only at hSw); go_simp; try with_reducible rfl
  try simp only [put_y]
  try simp only [Act.put]
  try simp only [put_z]
  refine wpAnyH_take (i := 12) (v := ?_) rfl (by kernel_rfl) (by kernel_rfl) (by kernel_rfl) (fun _ _ _ h => h) (Or.inl ⟨by rfl, ?_⟩) (by assumption) ?_
  rotate_left
  · intro w hSw; (try dsimp only at hSw); go_simp; try with_reducible rfl
  try simp only [put_y]
  try simp only [Act.put]
  try simp only [put_z]
  refine wpAnyH_take (i := 13) (v := ?_) rfl (by kernel_rfl) (by kernel_rfl) (by kernel_rfl) (fun _ _ _ h => h) (Or.inl ⟨by rfl, ?_⟩) (by assumption) ?_
  rotate_left
  · intro w hSw; (try dsimp only at hSw); go_simp; try with_reducible rfl
  try simp only [put_y]
  try simp only [Act.put]
  try simp only [put_z]
  refine wpAnyH_take (i := 14) (v := ?_) rfl (by kernel_rfl) (by kernel_rfl) (by kernel_rfl) (fun _ _ _ h => h) (Or.inl ⟨by rfl, ?_⟩) (by assumption) ?_
  rotate_left
  · intro w hSw; (try dsimp only at hSw); go_simp; try with_reducible rfl
  try simp only [put_y]
  try simp only [Act.put]
  try simp only [put_z]
  refine wpAnyH_ready (rs := [10]) (by kernel_rfl) (by simp) ?_
  refine AllReadyH.cons rfl (fun K hK => ?_) AllReadyH.nil
  go_simp
  have C3 := Lib.hid (gSteps_c w2 ρ1 gb a1 G (H1.out.non hu2) hT HK.out)
  unfold gp at C3
  refine C3.out.mono ?_
  rintro e w3 ⟨A3, k3, rfl, hS3, hu3'⟩
  have hu3 := hu2.then_non hu3'
  have C4 := Lib.hid (sameSteps_c w3 _ _ A3 a2.t k3 a2.tc G.T hS3 (H2.out.non hu3).tv (by omega) HK.out)
  go_wp2_with fail
  refine hK.out _ _ ?_ (fun hHeld => ?_)
  · exact hS _ hu3
  clear hK K
  try simp only [put_y]
  try simp only [Act.put]
  try simp only [put_z]
  refine wpAnyH_ready (rs := [15]) (by kernel_rfl) (by simp) ?_
  refine AllReadyH.cons rfl (fun K hK => ?_) AllReadyH.nil
  go_simp
  refine C4.out.mono ?_
  rintro e w4 ⟨rfl, hu4'⟩
  have hu4 := hu3.then_non hu4'
  go_wp2_with fail
  refine hK.out _ _ ?_ (fun hHeld => ?_)
  · exact hS _ hu4
  clear hK K
  try simp only [put_y]
  try simp only [Act.put]
  try simp only [put_z]
  refine wpAnyH_take (i := 16) (v := ?_) rfl (by kernel_rfl) (by kernel_rfl) (by kernel_rfl) (fun _ _ _ h => h) (Or.inl ⟨by rfl, ?_⟩) (by assumption) ?_
  rotate_left
  · intro w hSw; (try dsimp only at hSw); go_simp; try with_reducible rfl
  try simp only [put_y]
  try simp only [Act.put]
  try simp only [put_z]
  refine wpAnyH_take (i := 17) (v := ?_) rfl (by kernel_rfl) (by kernel_rfl) (by kernel_rfl) (fun _ _ _ h => h) (Or.inl ⟨by rfl, ?_⟩) (by assumption) ?_
  rotate_left
  · intro w hSw; (try dsimp only at hSw); go_simp; try with_reducible rfl
  try simp only [put_y]
  try simp only [Act.put]
  try simp only [put_z]
  refine wpAnyH_take (i := 18) (v := ?_) rfl (by kernel_rfl) (by kernel_rfl) (by kernel_rfl) (fun _ _ _ h => h) (Or.inl ⟨by rfl, ?_⟩) (by assumption) ?_
  rotate_left
  · intro w hSw; (try dsimp only at hSw); go_simp; try with_reducible rfl
  try simp only [put_y]
  try simp only [Act.put]
  try simp only [put_z]
  refine wpAnyH_take (i := 19) (v := ?_) rfl (by kernel_rfl) (by kernel_rfl) (by kernel_rfl) (fun _ _ _ h => h) (Or.inl ⟨by rfl, ?_⟩) (by assumption) ?_
  rotate_left
  · intro w hSw; (try dsimp only at hSw); go_simp; try with_reducible rfl
  try simp only [put_y]
  try simp only [Act.put]
  try simp only [put_z]
  refine wpAnyH_take (i := 21) (v := ?_) rfl (by kernel_rfl) (by kernel_rfl) (by kernel_rfl) (fun _ _ _ h => h) (Or.inl ⟨by rfl, ?_⟩) (by assumption) ?_
  rotate_left
  · intro w hSw; (try dsimp only at hSw); go_simp; try with_reducible rfl
  try simp only [put_y]
  try simp only [Act.put]
  try simp only [put_z]
  have hsl : (classesTo G.c G.L.length).length ≤ G.L.length := by unfold classesTo; rw [List.length_map]; refine Nat.le_trans (List.length_filter_le _ _) (by simp)
  refine wpAnyH_ready (rs := [20]) (by kernel_rfl) (by simp) ?_
  refine AllReadyH.cons rfl (fun K hK => ?_) AllReadyH.nil
  go_simp
  have C5 := Lib.hid (gClasses_c w4 ρ1 gb a1 G (H1.out.non hu4) hsm)
  unfold gp at C5
  refine C5.out.mono ?_
  rintro e w5 ⟨A5, k5, rfl, ho5, _, hu5'⟩
  have hu5 := hu4.then_non hu5'
  go_wp2_with fail
  refine hK.out _ _ ?_ (fun hHeld => ?_)
  · exact hS _ hu5
  clear hK K
  try simp only [put_y]
  try simp only [Act.put]
  try simp only [put_z]
  refine wpAnyH_ready (rs := [22]) (by kernel_rfl) (by simp) ?_
  refine AllReadyH.cons rfl (fun K hK => ?_) AllReadyH.nil
  go_simp
  have C6 := Lib.hid (rClasses_c w5 ρ2 rb a2 G (H2.out.non hu5) hsm)
  unfold gp at C6
  refine C6.out.mono ?_
  rintro e w6 ⟨A6, k6, rfl, ho6, _, hu6'⟩
  have hu6 := hu5.then_non hu6'
  have C7 := Lib.hid (sameInts_c w6 _ _ A5 A6 k5 k6 _ _ (ho5.ints.upd hu6' (fun _ _ _ f => f)) ho6.ints (by omega))
  rw [decide_eq_true rfl] at C7
  go_wp2_with fail
  refine hK.out _ _ ?_ (fun hHeld => ?_)
  · exact hS _ hu6
  clear hK K
  try simp only [put_y]
  try simp only [Act.put]
  try simp only [put_z]
  refine wpAnyH_ready (rs := [23]) (by kernel_rfl) (by simp) ?_
  refine AllReadyH.cons rfl (fun K hK => ?_) AllReadyH.nil
  go_simp
  refine C7.out.mono ?_
  rintro e w7 ⟨rfl, n7, rfl⟩
  have hu7 := hu6.drewN n7
  obtain ⟨w7, H7⟩ := nm (w6.drewN n7)
  rw [H7.out] at hu7
  rw [H7.out]
  go_wp2_with fail
  refine hK.out _ _ ?_ (fun hHeld => ?_)
  · exact hS _ hu7
  clear hK K
  try simp only [put_y]
  try simp only [Act.put]
  try simp only [put_z]
  refine wpAnyH_take (i := 24) (v := ?_) rfl (by kernel_rfl) (by kernel_rfl) (by kernel_rfl) (fun _ _ _ h => h) (Or.inl ⟨by rfl, ?_⟩) (by assumption) ?_
  rotate_left
  · intro w hSw; (try dsimp only at hSw); go_simp; try with_reducible rfl
  try simp only [put_y]
  try simp only [Act.put]
  try simp only [put_z]
  refine wpAnyH_take (i := 25) (v := ?_) rfl (by kernel_rfl) (by kernel_rfl) (by kernel_rfl) (fun _ _ _ h => h) (Or.inl ⟨by rfl, ?_⟩) (by assumption) ?_
  rotate_left
  · intro w hSw; (try dsimp only at hSw); go_simp; try with_reducible rfl
  try simp only [put_y]
  try simp only [Act.put]
  try simp only [put_z]
  refine wpAnyH_done (by kernel_rfl) ?_ _
  go_wp2_with fail
  clear C1 C2 C3 C4 C5 C6 C7 hV1 hN1 hS3 ho5 ho6 hM1 hS
  obtain ⟨n, Hn⟩ := nm G.L.length
  rw [Hn.out] at c0 hsm
  go_loopg [5] (n + 2) (fun g iv wr => ∃ (t : Nat) (x : Int), Hid (g = n + 2 - t) ∧ Hid (t ≤ n + 2 ∧ x = (t : Int) - 1) ∧ iv = .int .i64 x ∧ Upd Non w wr)
  case atStart => exact ⟨0, -1, rfl, ⟨by omega, by omega⟩, rfl, hu7⟩
  case round =>
    clear hu1 hu1' hu2 hu2' hu3 hu3' hu4 hu4' hu5 hu5' hu6 hu6' hu7
    obtain ⟨t, x, Hg, Ht, rfl, hu⟩ := hrel
    have c0r := cell_upd c0 hu (fun f => f)
    have hx1 : -1 ≤ x := by have := Ht.out; omega
    by_cases hle : x ≤ (n : Int)
    · have hx2 : x + 1 ≤ 9000000000000000000 := by omega
      have Hlt : Hid (t < n + 2) := by show _ < _; have := Ht.out; omega
      have hM1 := H1.out.non hu
      have hM2 := H2.out.non hu
      have C1 := Lib.hid (gFind_c wr ρ1 gb a1 G (H1.out.non hu) x)
      have C2 := Lib.hid (rFind_c wr ρ2 rb a2 G (H2.out.non hu) x)
      have C3 := Lib.hid (gClass_c wr ρ1 gb a1 G (H1.out.non hu) HG.out.wf.named (by rw [Hn.out]; exact hsm) x)
      have hcl := classF_len G x
      rw [Hn.out] at hcl
      have hdl : (distF G x).length ≤ (classF G x).length := by unfold distF; exact distTo_len _ _ _ _
      unfold gp at C1 C2 C3
      obtain ⟨f, Hf⟩ := nm (findF G x)
      rw [Hf.out] at C1 C2
      have hff : (f != f) = false := by simp
      go_wp2_with fail
      refine C1.out.mono ?_
      rintro e w1 ⟨rfl, rfl⟩
      go_wp2_with fail
      refine C2.out.mono ?_
      rintro e w2 ⟨rfl, rfl⟩
      go_wp2_with fail
      refine C3.out.mono ?_
      rintro e w3 ⟨A3, k3, rfl, ho3, _, hu3'⟩
      have hu3 := hu.then_non hu3'
      have C4 := Lib.hid (rClass_c w3 ρ2 rb a2 G (H2.out.non hu3) (by rw [Hn.out]; exact hsm) x)
      unfold gp at C4
      go_wp2_with fail
      refine C4.out.mono ?_
      rintro e w4 ⟨A4, k4, rfl, ho4, _, hu4'⟩
      have hu4 := hu3.then_non hu4'
      have C5 := Lib.hid (sameInts_c w4 _ _ A3 A4 k3 k4 _ _ (ho3.ints.upd hu4' (fun _ _ _ f => f)) ho4.ints (by omega))
      rw [decide_eq_true rfl] at C5
      go_wp2_with fail
      refine C5.out.mono ?_
      rintro e w5 ⟨rfl, n5, e5⟩
      have hu5 : Upd Non w w5 := by rw [e5]; exact hu4.drewN n5
      clear e5
      have C6 := Lib.hid (gDistinct_c w5 ρ1 gb a1 G (H1.out.non hu5) HG.out x)
      unfold gp at C6
      go_wp2_with fail
      refine C6.out.mono ?_
      rintro e w6 ⟨A6, k6, rfl, ho6, _, hu6'⟩
      have hu6 := hu5.then_non hu6'
      have C7 := Lib.hid (rDistinct_c w6 ρ2 rb a2 G (H2.out.non hu6) HG.out x)
      unfold gp at C7
      go_wp2_with fail
      refine C7.out.mono ?_
      rintro e w7 ⟨A7, k7, rfl, ho7, _, hu7'⟩
      have hu7 := hu6.then_non hu7'
      have C8 := Lib.hid (sameInts_c w7 _ _ A6 A7 k6 k7 _ _ (ho6.ints.upd hu7' (fun _ _ _ f => f)) ho7.ints (by omega))
      rw [decide_eq_true rfl] at C8
      go_wp2_with fail
      refine C8.out.mono ?_
      rintro e w8 ⟨rfl, n8, e8⟩
      have hu8 : Upd Non w w8 := by rw [e8]; exact hu7.drewN n8
      clear e8
      go_wp2_with fail
      clear C1 C2 C3 C4 C5 C6 C7 C8
      go_wp2_with fail
      go_roundg (n + 2 - (t + 1))
      case measure => rw [Hg.out]; have := Hlt.out; omega
      case rel => exact ⟨t + 1, x + 1, rfl, by show _ ∧ _; have := Hlt.out; have := Ht.out; omega, by go_num, hu8⟩
    · go_wp2_with fail
      go_ret
      exact ⟨rfl, hu⟩
end Go.Proofs.Ytigambcefdeaoaa
