/-
  What SameNodes, SameStep and SameSteps do at equal lists: they answer true.
-/
import Derived.Test.YtigambcefdeaoaaGClA
import Derived.Test.YtigambcefdeaoaaSame
import Derived.Test.YtigambcefdeaoaaDrawn
namespace Go.Proofs.Ytigambcefdeaoaa
open Go.RowKit

set_option maxRecDepth 100000 in
set_option maxHeartbeats 1000000 in
theorem sameNodes_c (w : World) (F G : Nat → Prop) (A B : Option Addr) (c d : Nat) (L : List Nd) (hA : NodesV w F A L) (hB : NodesV w G B L) (hl : L.length ≤ 1000000000000) (hk : ∀ nd ∈ L, nd.kids.length ≤ 1000000000000000) :
    Calls Try.prog 23 #[.slice A L.length c, .slice B L.length d] w fun e w' => e = .returned (.bool true) ∧ Upd Non w w' := by
  have HK := Lib.hid hk
  have t1 : ((L.length : Int) != (L.length : Int)) = false := by simp
  clear hk
  go_enter Try.func23, Try.ntmps23
  go_wp2_with fail
  go_loopg [5] L.length (fun g i wr => ∃ k : Nat, Hid (g = L.length - k) ∧ k ≤ L.length ∧ i = .int .i64 k ∧ Upd Non w wr)
  case atStart => exact ⟨0, rfl, by omega, rfl, Upd.refl⟩
  case round =>
    obtain ⟨k, Hg, hk, rfl, hu⟩ := hrel
    by_cases hlt : k < L.length
    · obtain ⟨lb, lo, rfl, _, hlb, n1, n2, KA, kc, n3, hkc, hki⟩ := (hA.upd hu (fun _ _ _ f => f)).at_ hlt
      obtain ⟨mb, mo, rfl, _, hmb, m1, m2, KB, kd, m3, hkd, hkj⟩ := (hB.upd hu (fun _ _ _ f => f)).at_ hlt
      have hkl := HK.out _ (List.getElem_mem hlt)
      generalize L[k] = nd at *
      have C1 := Lib.hid (sameNode_c wr.drew _ _ nd nd KA KB kc kd (hki.upd (Upd.refl.drew (S := Non)) (fun _ _ _ f => f)) (hkj.upd (Upd.refl.drew (S := Non)) (fun _ _ _ f => f)) hkl)
      rw [sameNd_iff.2 rfl] at C1
      have i0 : (0 : Int) ≤ (k : Int) := by omega
      have i1 : (k : Int) < (L.length : Int) := by omega
      have s1 : wr.drew.cell? ⟨lb, lo + k * 3, none⟩ = some (.int .i64 nd.op) := n1
      have s2 : wr.drew.cell? ⟨lb, lo + k * 3 + 1, none⟩ = some (.int .i64 nd.imm) := n2
      have s3 : wr.drew.cell? ⟨lb, lo + k * 3 + 2, none⟩ = some (.slice KA nd.kids.length kc) := n3
      have s4 : wr.drew.cell? ⟨mb, mo + k * 3, none⟩ = some (.int .i64 nd.op) := m1
      have s5 : wr.drew.cell? ⟨mb, mo + k * 3 + 1, none⟩ = some (.int .i64 nd.imm) := m2
      have s6 : wr.drew.cell? ⟨mb, mo + k * 3 + 2, none⟩ = some (.slice KB nd.kids.length kd) := m3
      go_wp2_with fail
      refine wp_region_held_drew (S := fun w' => w'.cell? ⟨lb, lo + k * 3, none⟩ = some (.int .i64 nd.op) ∧ w'.cell? ⟨lb, lo + k * 3 + 1, none⟩ = some (.int .i64 nd.imm) ∧ w'.cell? ⟨lb, lo + k * 3 + 2, none⟩ = some (.slice KA nd.kids.length kc) ∧ w'.cell? ⟨mb, mo + k * 3, none⟩ = some (.int .i64 nd.op) ∧ w'.cell? ⟨mb, mo + k * 3 + 1, none⟩ = some (.int .i64 nd.imm) ∧ w'.cell? ⟨mb, mo + k * 3 + 2, none⟩ = some (.slice KB nd.kids.length kd)) (by kernel_rfl) ⟨s1, s2, s3, s4, s5, s6⟩ (fun hHeld => ?_)
      refine wpAnyH_take (i := 0) (v := ?_) rfl (by kernel_rfl) (by kernel_rfl) (by kernel_rfl) (fun _ _ _ h => h) (Or.inl ⟨by rfl, ?_⟩) (by assumption) ?_
      rotate_left
      · intro w hSw; (try dsimp only at hSw); go_simp; try with_reducible rfl
      try simp only [put_y]
      try simp only [Act.put]
      try simp only [put_z]
      refine wpAnyH_take (i := 1) (v := ?_) rfl (by kernel_rfl) (by kernel_rfl) (by kernel_rfl) (fun _ _ _ h => h) (Or.inl ⟨by rfl, ?_⟩) (by assumption) ?_
      rotate_left
      · intro w hSw; (try dsimp only at hSw); go_simp; try with_reducible rfl
      try simp only [put_y]
      try simp only [Act.put]
      try simp only [put_z]
      refine wpAnyH_take (i := 2) (v := ?_) rfl (by kernel_rfl) (by kernel_rfl) (by kernel_rfl) (fun _ _ _ h => h) (Or.inl ⟨by rfl, ?_⟩) (by assumption) ?_
      rotate_left
      · intro w hSw; (try dsimp only at hSw); go_simp; try with_reducible rfl
      try simp only [put_y]
      try simp only [Act.put]
      try simp only [put_z]
      refine wpAnyH_take (i := 3) (v := ?_) rfl (by kernel_rfl) (by kernel_rfl) (by kernel_rfl) (fun _ _ _ h => h) (Or.inl ⟨by rfl, ?_⟩) (by assumption) ?_
      rotate_left
      · intro w hSw; (try dsimp only at hSw); go_simp; try with_reducible rfl
      try simp only [put_y]
      try simp only [Act.put]
      try simp only [put_z]
      refine wpAnyH_take (i := 4) (v := ?_) rfl (by kernel_rfl) (by kernel_rfl) (by kernel_rfl) (fun _ _ _ h => h) (Or.inl ⟨by rfl, ?_⟩) (by assumption) ?_
      rotate_left
      · intro w hSw; (try dsimp only at hSw); go_simp; try with_reducible rfl
      try simp only [put_y]
      try simp only [Act.put]
      try simp only [put_z]
      refine wpAnyH_take (i := 5) (v := ?_) rfl (by kernel_rfl) (by kernel_rfl) (by kernel_rfl) (fun _ _ _ h => h) (Or.inl ⟨by rfl, ?_⟩) (by assumption) ?_
      rotate_left
      · intro w hSw; (try dsimp only at hSw); go_simp; try with_reducible rfl
      try simp only [put_y]
      try simp only [Act.put]
      try simp only [put_z]
      refine wpAnyH_take (i := 6) (v := ?_) rfl (by kernel_rfl) (by kernel_rfl) (by kernel_rfl) (fun _ _ _ h => h) (Or.inl ⟨by rfl, ?_⟩) (by assumption) ?_
      rotate_left
      · intro w hSw; (try dsimp only at hSw); go_simp; try with_reducible rfl
      try simp only [put_y]
      try simp only [Act.put]
      try simp only [put_z]
      refine wpAnyH_take (i := 7) (v := ?_) rfl (by kernel_rfl) (by kernel_rfl) (by kernel_rfl) (fun _ _ _ h => h) (Or.inl ⟨by rfl, ?_⟩) (by assumption) ?_
      rotate_left
      · intro w hSw; (try dsimp only at hSw); go_simp; try with_reducible rfl
      try simp only [put_y]
      try simp only [Act.put]
      try simp only [put_z]
      refine wpAnyH_ready (rs := [8]) (by kernel_rfl) (by simp) ?_
      refine AllReadyH.cons rfl (fun K hK => ?_) AllReadyH.nil
      go_simp
      refine C1.out.mono ?_
      rintro e w1 ⟨rfl, hu1'⟩
      have hu1 : Upd Non wr w1 := Upd.refl.drew.then_non hu1'
      go_wp2_with fail
      refine hK.out _ _ ?_ (fun hHeld => ?_)
      · exact ⟨cell_upd n1 hu1 (fun f => f), cell_upd n2 hu1 (fun f => f), cell_upd n3 hu1 (fun f => f), cell_upd m1 hu1 (fun f => f), cell_upd m2 hu1 (fun f => f), cell_upd m3 hu1 (fun f => f)⟩
      clear hK K
      try simp only [put_y]
      try simp only [Act.put]
      try simp only [put_z]
      refine wpAnyH_take (i := 9) (v := ?_) rfl (by kernel_rfl) (by kernel_rfl) (by kernel_rfl) (fun _ _ _ h => h) (Or.inl ⟨by rfl, ?_⟩) (by assumption) ?_
      rotate_left
      · intro w hSw; (try dsimp only at hSw); go_simp; try with_reducible rfl
      try simp only [put_y]
      try simp only [Act.put]
      try simp only [put_z]
      refine wpAnyH_done (by kernel_rfl) ?_ _
      go_wp2_with fail
      go_roundg (L.length - (k + 1))
      case measure => rw [Hg.out]; omega
      case rel => exact ⟨k + 1, rfl, by omega, by go_num, hu.then_non hu1⟩
    · obtain rfl : L.length = k := by omega
      go_wp2_with fail
      go_ret
      exact ⟨rfl, hu⟩

set_option maxRecDepth 100000 in
set_option maxHeartbeats 1000000 in
theorem sameStep_c (w : World) (F G : Nat → Prop) (s : Stp) (VA MA VB MB : Option Addr) (vc mc vd md : Nat) (hv : Ints w F VA s.vars) (hm : Ints w F MA s.imms) (hv2 : Ints w G VB s.vars) (hm2 : Ints w G MB s.imms) (hvl : s.vars.length ≤ 1000000000000) (hml : s.imms.length ≤ 1000000000000) :
    Calls Try.prog 51 #[.agg #[.int .i64 s.l, .int .i64 s.r, .int .i64 s.why, .slice VA s.vars.length vc, .slice MA s.imms.length mc], .agg #[.int .i64 s.l, .int .i64 s.r, .int .i64 s.why, .slice VB s.vars.length vd, .slice MB s.imms.length md]] w fun e w' => e = .returned (.bool true) ∧ Upd Non w w' := by
  obtain ⟨l, r, y, vs, ms⟩ := s
  dsimp only at *
  obtain ⟨W, HW⟩ := nm ((w.alloc (.cells #[.int .i64 l, .int .i64 r, .int .i64 y, .slice VA vs.length vc, .slice MA ms.length mc] 34)).alloc (.cells #[.int .i64 l, .int .i64 r, .int .i64 y, .slice VB vs.length vd, .slice MB ms.length md] 34))
  have hU : Upd Non w W := by rw [← HW.out]; exact (Upd.refl.alloc _).alloc _
  have b1 : Blk W w.heap.size 34 #[.int .i64 l, .int .i64 r, .int .i64 y, .slice VA vs.length vc, .slice MA ms.length mc] := by rw [← HW.out]; exact (Blk.new w _ _).alloc _
  have b2 : Blk W (w.heap.size + 1) 34 #[.int .i64 l, .int .i64 r, .int .i64 y, .slice VB vs.length vd, .slice MB ms.length md] := by rw [← HW.out]; exact Blk.new' (by simp)
  have hmW := hm.upd hU (fun _ _ _ f => f)
  have hm2W := hm2.upd hU (fun _ _ _ f => f)
  have C1 := Lib.hid (sameInts_c W F G VA VB vc vd vs vs (hv.upd hU (fun _ _ _ f => f)) (hv2.upd hU (fun _ _ _ f => f)) hvl)
  rw [decide_eq_true rfl] at C1
  have d0 := b1.cell 0
  have d1 := b1.cell 1
  have d2 := b1.cell 2
  have d3 := b1.cell 3
  have d4 := b1.cell 4
  have f0 := b2.cell 0
  have f1 := b2.cell 1
  have f2 := b2.cell 2
  have f3 := b2.cell 3
  have f4 := b2.cell 4
  have t0 : (l != l) = false := by simp
  have t1 : (r != r) = false := by simp
  have t2 : (y != y) = false := by simp
  have t3 : ((ms.length : Int) != (ms.length : Int)) = false := by simp
  have e0 := HW.out
  clear b1 b2 hv hm hv2 hm2
  go_enter Try.func51, Try.ntmps51
  go_wp2_with fail
  refine C1.out.mono ?_
  rintro e w1 ⟨rfl, n1, rfl⟩
  clear C1
  go_wp2_with fail
  go_loopg [5] ms.length (fun g i wr => ∃ k n : Nat, Hid (g = ms.length - k) ∧ k ≤ ms.length ∧ i = .int .i64 k ∧ wr = W.drewN n)
  case atStart => exact ⟨0, n1, rfl, by omega, rfl, rfl⟩
  case round =>
    obtain ⟨k, n, Hg, hk, rfl, rfl⟩ := hrel
    by_cases hlt : k < ms.length
    · obtain ⟨mb, mo, rfl, _, _, h1⟩ := hmW.at_ hlt
      obtain ⟨mb2, mo2, rfl, _, _, h2⟩ := hm2W.at_ hlt
      generalize ms[k] = x at *
      have t4 : (x != x) = false := by simp
      go_wp2_with fail
      go_quiet (fail)
      go_wp2_with fail
      go_roundg (ms.length - (k + 1))
      case measure => rw [Hg.out]; omega
      case rel => exact ⟨k + 1, _, rfl, by omega, by go_num, rfl⟩
    · obtain rfl : ms.length = k := by omega
      go_wp2_with fail
      go_ret
      exact ⟨rfl, hU.drewN _⟩

set_option maxRecDepth 100000 in
set_option maxHeartbeats 1000000 in
theorem sameSteps_c (w : World) (F G : Nat → Prop) (A B : Option Addr) (c d : Nat) (T : List Stp) (hA : StepsV w F A T) (hB : StepsV w G B T) (hl : T.length ≤ 1000000000000) (hk : ∀ s ∈ T, s.vars.length ≤ 100000000000 ∧ s.imms.length ≤ 100000000000) :
    Calls Try.prog 24 #[.slice A T.length c, .slice B T.length d] w fun e w' => e = .returned (.bool true) ∧ Upd Non w w' := by
  have HK := Lib.hid hk
  have t1 : ((T.length : Int) != (T.length : Int)) = false := by simp
  clear hk
  go_enter Try.func24, Try.ntmps24
  go_wp2_with fail
  go_loopg [5] T.length (fun g i wr => ∃ k : Nat, Hid (g = T.length - k) ∧ k ≤ T.length ∧ i = .int .i64 k ∧ Upd Non w wr)
  case atStart => exact ⟨0, rfl, by omega, rfl, Upd.refl⟩
  case round =>
    obtain ⟨k, Hg, hk, rfl, hu⟩ := hrel
    by_cases hlt : k < T.length
    · obtain ⟨lb, lo, rfl, _, hlb, n1, n2, n3, VA, vc, MA, mc, n4, n5, _, _, hv, hm⟩ := (hA.upd hu (fun _ _ _ f => f)).at_ hlt
      obtain ⟨mb, mo, rfl, _, hmb, m1, m2, m3, VB, vd, MB, md, m4, m5, _, _, hv2, hm2⟩ := (hB.upd hu (fun _ _ _ f => f)).at_ hlt
      obtain ⟨k1, k2⟩ := HK.out _ (List.getElem_mem hlt)
      generalize T[k] = s at *
      have C1 := Lib.hid (sameStep_c wr.drew _ _ s VA MA VB MB vc mc vd md (hv.upd (Upd.refl.drew (S := Non)) (fun _ _ _ f => f)) (hm.upd (Upd.refl.drew (S := Non)) (fun _ _ _ f => f)) (hv2.upd (Upd.refl.drew (S := Non)) (fun _ _ _ f => f)) (hm2.upd (Upd.refl.drew (S := Non)) (fun _ _ _ f => f)) (by omega) (by omega))
      have i0 : (0 : Int) ≤ (k : Int) := by omega
      have i1 : (k : Int) < (T.length : Int) := by omega
      have SS : ∀ w' : World, Upd Non wr w' → w'.cell? ⟨lb, lo + k * 5, none⟩ = some (.int .i64 s.l) ∧ w'.cell? ⟨lb, lo + k * 5 + 1, none⟩ = some (.int .i64 s.r) ∧ w'.cell? ⟨lb, lo + k * 5 + 2, none⟩ = some (.int .i64 s.why) ∧ w'.cell? ⟨lb, lo + k * 5 + 3, none⟩ = some (.slice VA s.vars.length vc) ∧ w'.cell? ⟨lb, lo + k * 5 + 4, none⟩ = some (.slice MA s.imms.length mc) ∧
          w'.cell? ⟨mb, mo + k * 5, none⟩ = some (.int .i64 s.l) ∧ w'.cell? ⟨mb, mo + k * 5 + 1, none⟩ = some (.int .i64 s.r) ∧ w'.cell? ⟨mb, mo + k * 5 + 2, none⟩ = some (.int .i64 s.why) ∧ w'.cell? ⟨mb, mo + k * 5 + 3, none⟩ = some (.slice VB s.vars.length vd) ∧ w'.cell? ⟨mb, mo + k * 5 + 4, none⟩ = some (.slice MB s.imms.length md) := fun w' u =>
        ⟨cell_upd n1 u (fun f => f), cell_upd n2 u (fun f => f), cell_upd n3 u (fun f => f), cell_upd n4 u (fun f => f), cell_upd n5 u (fun f => f), cell_upd m1 u (fun f => f), cell_upd m2 u (fun f => f), cell_upd m3 u (fun f => f), cell_upd m4 u (fun f => f), cell_upd m5 u (fun f => f)⟩
      have HSS := Lib.hid SS
      clear SS
      go_wp2_with fail
      refine wp_region_held_drew (S := fun w' => w'.cell? ⟨lb, lo + k * 5, none⟩ = some (.int .i64 s.l) ∧ w'.cell? ⟨lb, lo + k * 5 + 1, none⟩ = some (.int .i64 s.r) ∧ w'.cell? ⟨lb, lo + k * 5 + 2, none⟩ = some (.int .i64 s.why) ∧ w'.cell? ⟨lb, lo + k * 5 + 3, none⟩ = some (.slice VA s.vars.length vc) ∧ w'.cell? ⟨lb, lo + k * 5 + 4, none⟩ = some (.slice MA s.imms.length mc) ∧
          w'.cell? ⟨mb, mo + k * 5, none⟩ = some (.int .i64 s.l) ∧ w'.cell? ⟨mb, mo + k * 5 + 1, none⟩ = some (.int .i64 s.r) ∧ w'.cell? ⟨mb, mo + k * 5 + 2, none⟩ = some (.int .i64 s.why) ∧ w'.cell? ⟨mb, mo + k * 5 + 3, none⟩ = some (.slice VB s.vars.length vd) ∧ w'.cell? ⟨mb, mo + k * 5 + 4, none⟩ = some (.slice MB s.imms.length md)) (by kernel_rfl) (HSS.out _ Upd.refl.drew) (fun hHeld => ?_)
      refine wpAnyH_take (i := 0) (v := ?_) rfl (by kernel_rfl) (by kernel_rfl) (by kernel_rfl) (fun _ _ _ h => h) (Or.inl ⟨by rfl, ?_⟩) (by assumption) ?_
      rotate_left
      · intro w hSw; (try dsimp only at hSw); go_simp; try with_reducible rfl
      try simp only [put_y]
      try simp only [Act.put]
      try simp only [put_z]
      refine wpAnyH_take (i := 1) (v := ?_) rfl (by kernel_rfl) (by kernel_rfl) (by kernel_rfl) (fun _ _ _ h => h) (Or.inl ⟨by rfl, ?_⟩) (by assumption) ?_
      rotate_left
      · intro w hSw; (try dsimp only at hSw); go_simp; try with_reducible rfl
      try simp only [put_y]
      try simp only [Act.put]
      try simp only [put_z]
      refine wpAnyH_take (i := 2) (v := ?_) rfl (by kernel_rfl) (by kernel_rfl) (by kernel_rfl) (fun _ _ _ h => h) (Or.inl ⟨by rfl, ?_⟩) (by assumption) ?_
      rotate_left
      · intro w hSw; (try dsimp only at hSw); go_simp; try with_reducible rfl
      try simp only [put_y]
      try simp only [Act.put]
      try simp only [put_z]
      refine wpAnyH_take (i := 3) (v := ?_) rfl (by kernel_rfl) (by kernel_rfl) (by kernel_rfl) (fun _ _ _ h => h) (Or.inl ⟨by rfl, ?_⟩) (by assumption) ?_
      rotate_left
      · intro w hSw; (try dsimp only at hSw); go_simp; try with_reducible rfl
      try simp only [put_y]
      try simp only [Act.put]
      try simp only [put_z]
      refine wpAnyH_take (i := 4) (v := ?_) rfl (by kernel_rfl) (by kernel_rfl) (by kernel_rfl) (fun _ _ _ h => h) (Or.inl ⟨by rfl, ?_⟩) (by assumption) ?_
      rotate_left
      · intro w hSw; (try dsimp only at hSw); go_simp; try with_reducible rfl
      try simp only [put_y]
      try simp only [Act.put]
      try simp only [put_z]
      refine wpAnyH_take (i := 5) (v := ?_) rfl (by kernel_rfl) (by kernel_rfl) (by kernel_rfl) (fun _ _ _ h => h) (Or.inl ⟨by rfl, ?_⟩) (by assumption) ?_
      rotate_left
      · intro w hSw; (try dsimp only at hSw); go_simp; try with_reducible rfl
      try simp only [put_y]
      try simp only [Act.put]
      try simp only [put_z]
      refine wpAnyH_take (i := 6) (v := ?_) rfl (by kernel_rfl) (by kernel_rfl) (by kernel_rfl) (fun _ _ _ h => h) (Or.inl ⟨by rfl, ?_⟩) (by assumption) ?_
      rotate_left
      · intro w hSw; (try dsimp only at hSw); go_simp; try with_reducible rfl
      try simp only [put_y]
      try simp only [Act.put]
      try simp only [put_z]
      refine wpAnyH_take (i := 7) (v := ?_) rfl (by kernel_rfl) (by kernel_rfl) (by kernel_rfl) (fun _ _ _ h => h) (Or.inl ⟨by rfl, ?_⟩) (by assumption) ?_
      rotate_left
      · intro w hSw; (try dsimp only at hSw); go_simp; try with_reducible rfl
      try simp only [put_y]
      try simp only [Act.put]
      try simp only [put_z]
      refine wpAnyH_ready (rs := [8]) (by kernel_rfl) (by simp) ?_
      refine AllReadyH.cons rfl (fun K hK => ?_) AllReadyH.nil
      go_simp
      refine C1.out.mono ?_
      rintro e w1 ⟨rfl, hu1'⟩
      have hu1 : Upd Non wr w1 := Upd.refl.drew.then_non hu1'
      go_wp2_with fail
      refine hK.out _ _ ?_ (fun hHeld => ?_)
      · exact HSS.out _ hu1
      clear hK K
      try simp only [put_y]
      try simp only [Act.put]
      try simp only [put_z]
      refine wpAnyH_take (i := 9) (v := ?_) rfl (by kernel_rfl) (by kernel_rfl) (by kernel_rfl) (fun _ _ _ h => h) (Or.inl ⟨by rfl, ?_⟩) (by assumption) ?_
      rotate_left
      · intro w hSw; (try dsimp only at hSw); go_simp; try with_reducible rfl
      try simp only [put_y]
      try simp only [Act.put]
      try simp only [put_z]
      refine wpAnyH_done (by kernel_rfl) ?_ _
      go_wp2_with fail
      go_roundg (T.length - (k + 1))
      case measure => rw [Hg.out]; omega
      case rel => exact ⟨k + 1, rfl, by omega, by go_num, hu.then_non hu1⟩
    · obtain rfl : T.length = k := by omega
      go_wp2_with fail
      go_ret
      exact ⟨rfl, hu⟩
end Go.Proofs.Ytigambcefdeaoaa
