/-
  What the reference's Union does.
-/
import Derived.Test.YtigambcefdeaoaaRRb
import Derived.Test.YtigambcefdeaoaaMutC
namespace Go.Proofs.Ytigambcefdeaoaa
open Go.RowKit

theorem RM.sat {w : World} {ρ : Nat → Role} {rb : Nat} {a : RA} {G : EG} (h : RM w ρ rb a G) {i : Nat} (hi : i < G.L.length) : ∃ b, a.s = some ⟨b, 0, none⟩ ∧ b < w.heap.size ∧ w.cell? ⟨b, i, none⟩ = some (.int .i64 ((sortsF G.L).getD i 0)) := by
  have hl : (sortsF G.L).length = G.L.length := by unfold sortsF; exact sortsTo_len _ _
  obtain ⟨b, e⟩ := h.s.1.some_ (by omega)
  have hf := h.s.1
  rw [e] at hf
  have hi' : i < (icells (sortsF G.L)).length := by simp [icells]; omega
  have hc := hf.cell_ hi'
  refine ⟨b, e, World.block_lt_of_cell? _ _ hc, ?_⟩
  rw [hc]
  have hi2 : i < (sortsF G.L).length := by omega
  simp [icells, List.getD, List.getElem?_eq_getElem hi2]

set_option maxRecDepth 100000 in
set_option maxHeartbeats 4000000 in
theorem rUnion_c (w : World) (ρ : Nat → Role) (rb : Nat) (a : RA) (G : EG) (h : RM w ρ rb a G) (hg : GWf G) (hT : G.T.length ≤ 1000000000) (s : Stp)
    (VA MA : Option Addr) (vc mc : Nat) (F : Nat → Prop) (hv : Ints w F VA s.vars) (hm : Ints w F MA s.imms) (hvl : s.vars.length ≤ 100000000000) (hml : s.imms.length ≤ 100000000000) :
    Calls Try.prog 30 #[gp rb, stpV s VA MA vc mc] w fun e w' => e = .returned (uniRet G s) ∧ RNext w ρ rb w' (uniG G s) := by
  obtain ⟨W, HW⟩ := nm (w.alloc (.cells #[.int .i64 s.l, .int .i64 s.r, .int .i64 s.why, .slice VA s.vars.length vc, .slice MA s.imms.length mc] 34))
  have hU : Upd Non w W := by rw [← HW.out]; exact Upd.refl.alloc _
  have hb : Blk W w.heap.size 34 #[.int .i64 s.l, .int .i64 s.r, .int .i64 s.why, .slice VA s.vars.length vc, .slice MA s.imms.length mc] := by rw [← HW.out]; exact Blk.new _ _ _
  have e0 := HW.out
  have hM := h.non hU
  have HH := Lib.hid h
  have HGW := Lib.hid hg
  have C1 := Lib.hid (rFind_c W ρ rb a G hM s.l)
  have C2 := Lib.hid (rFind_c W ρ rb a G hM s.r)
  have d0 := hb.cell 0
  have d1 := hb.cell 1
  unfold gp stpV at *
  by_cases h1 : 0 ≤ s.l ∧ s.l < G.L.length
  · by_cases h2 : 0 ≤ s.r ∧ s.r < G.L.length
    · obtain ⟨i, hi⟩ := Int.eq_ofNat_of_zero_le h1.1
      obtain ⟨j, hj⟩ := Int.eq_ofNat_of_zero_le h2.1
      have hil : i < G.L.length := by omega
      have hjl : j < G.L.length := by omega
      have f1 : findF G s.l = (G.c i : Int) := by unfold findF; rw [if_pos h1, hi]; rfl
      have f2 : findF G s.r = (G.c j : Int) := by unfold findF; rw [if_pos h2, hj]; rfl
      rw [f1, hi] at C1
      rw [f2, hj] at C2
      obtain ⟨sb, es, hsb, hsi⟩ := hM.sat hil
      obtain ⟨sb', es', _, hsj⟩ := hM.sat hjl
      obtain rfl : sb = sb' := by rw [es] at es'; injection es' with e; injection e
      have c3 := hM.c3
      rw [es] at c3
      rw [hi] at d0
      rw [hj] at d1
      have HU : Hid (uniOk G s = decide ((sortsF G.L).getD i 0 = (sortsF G.L).getD j 0)) := by
        show _ = _
        simp only [uniOk, hi, hj, Int.toNat_natCast]
        rw [decide_eq_decide]
        constructor
        · rintro ⟨_, _, _, _, h⟩; exact h
        · intro h; exact ⟨by omega, by omega, by omega, by omega, h⟩
      have HC : Hid (uniNew G s = (uniOk G s && decide (G.c i ≠ G.c j))) := by
        show _ = _
        simp only [uniNew, hi, hj, Int.toNat_natCast]
      have i0 : (0 : Int) ≤ (i : Int) := by omega
      have i1 : (i : Int) < (G.L.length : Int) := by omega
      have j0 : (0 : Int) ≤ (j : Int) := by omega
      have j1 : (j : Int) < (G.L.length : Int) := by omega
      have g1 : decide ((G.c i : Int) < 0) = false := by simp
      have g2 : decide ((G.c j : Int) < 0) = false := by simp
      by_cases h3 : (sortsF G.L).getD i 0 = (sortsF G.L).getD j 0
      · have hx : Hid (uniOk G s = true) := by show _ = _; rw [HU.out]; exact decide_eq_true h3
        rw [← h3] at hsj
        generalize (sortsF G.L).getD i 0 = y at *
        have by1 : (y != y) = false := by simp
        by_cases h4 : G.c i = G.c j
        · have HR : Hid (uniRet G s = .tuple #[.bool false, .int .i64 0]) := by show _ = _; simp [uniRet, HC.out, hx.out, h4]
          have HG : Hid (uniG G s = G) := by show _ = _; simp [uniG, HC.out, h4]
          rw [← h4] at C2 g2
          generalize G.c i = z at *
          have hb4 : ((z : Int) == (z : Int)) = true := by simp
          generalize G.L.length = n at *
          clear h4 h3 hM h HU HC f1 f2 es es'
          rw [hi, hj]
          rw [hi, hj] at e0
          go_enter Try.func30, Try.ntmps30
          go_wp2_with fail
          refine C1.out.mono ?_
          rintro e w' ⟨rfl, rfl⟩
          go_wp2_with fail
          refine C2.out.mono ?_
          rintro e w' ⟨rfl, rfl⟩
          go_wp2_with fail
          go_quiet (fail)
          go_wp2_with fail
          go_ret2
          exact ⟨by rw [HR.out]; rfl, by rw [HG.out]; exact RNext.same HH.out (hU.drewN _)⟩
        · have HR : Hid (uniRet G s = .tuple #[.bool true, .int .i64 0]) := by show _ = _; simp [uniRet, HC.out, hx.out, h4]
          have HG : Hid (uniG G s = G.merge s) := by show _ = _; simp [uniG, HC.out, hx.out, h4]
          have hb4 : ((G.c i : Int) == (G.c j : Int)) = false := by simp; omega
          have HJ : Hid (joinc G.c (G.c i) (G.c j) = joinc G.c s.l.toNat s.r.toNat) := by show _ = _; rw [hi, hj]; simp only [Int.toNat_natCast]; unfold joinc; rw [HGW.out.wf.named.idem i hil, HGW.out.wf.named.idem j hjl]
          obtain ⟨z, Hz⟩ := nm (G.c i)
          obtain ⟨z2, Hz2⟩ := nm (G.c j)
          rw [Hz.out] at C1 g1 hb4 HJ
          rw [Hz2.out] at C2 g2 hb4 HJ
          obtain ⟨n, Hn⟩ := nm G.L.length
          rw [Hn.out] at c3 i1 j1
          have hvW := hv.upd hU (fun _ _ _ f => f)
          have hmW := hm.upd hU (fun _ _ _ f => f)
          have hi' := Lib.hid hi
          have hj' := Lib.hid hj
          clear h4 h3 hM h HU HC f1 f2 es es' hv hi hj
          rw [hi'.out, hj'.out]
          rw [hi'.out, hj'.out] at e0 hb
          go_enter Try.func30, Try.ntmps30
          go_wp2_with fail
          refine C1.out.mono ?_
          rintro e w' ⟨rfl, rfl⟩
          go_wp2_with fail
          refine C2.out.mono ?_
          rintro e w' ⟨rfl, rfl⟩
          go_wp2_with fail
          go_quiet (fail)
          rename_i nq
          obtain ⟨w3, Hw3⟩ := nm (W.drewN nq)
          have hU3 : Upd Non W w3 := by rw [← Hw3.out]; exact Upd.refl.drewN nq
          rw [Hw3.out]
          have hb3 := hb.upd hU3 (fun f => f)
          have hv3 := hvW.upd hU3 (fun _ _ _ f => f)
          have hm3 := hmW.upd hU3 (fun _ _ _ f => f)
          have hm3O := ((hm.mono (G := fun k => F k ∧ k < w.heap.size) (fun k hk hf => ⟨hf, hk⟩)).upd hU (fun _ _ _ f => f)).upd hU3 (fun _ _ _ f => f)
          have hsz3 := hU3.size
          have hbl := hb.lt
          have k3 : w3.cell? ⟨w.heap.size, 3, none⟩ = some (.slice VA s.vars.length vc) := hb3.cell 3
          have hbl3 := hb3.lt
          clear C1 C2 c3 hsi hsj d0 d1
          go_wp2_with (at_builtin; first
            | (refine wpList_app rfl rfl T_ints' rfl (own_empty w3 3 1) rfl (hv3.upd (Upd.refl.alloc _ (S := Non)) (fun _ _ _ f => f)) (by simp) (icells_one s.vars) (by simp only [maxLen]; omega) (by omega) ?_; intro A1 c1_ w4 ho4 hu4 hat4; rw [List.nil_append] at ho4; simp only [Nat.zero_add] at ho4 ⊢; have b4 := (hb3.alloc (.cells #[] 3)).upd hu4 (fun q => by rw [At.some_] at q; omega); have f4 := b4.frozen 3; have k4 : w4.cell? ⟨w.heap.size, 3, none⟩ = some (.slice VA s.vars.length vc) := b4.cell 3; have uA := updCell w4 w.heap.size 3 (.slice A1 s.vars.length c1_); have b4' := b4.set_ 3 (.slice A1 s.vars.length c1_); obtain ⟨wA, HA⟩ := nm (w4.setCell ⟨w.heap.size, 3, none⟩ (.slice A1 s.vars.length c1_)); have eA := HA.out; rw [HA.out] at uA b4'; have k5 : wA.cell? ⟨w.heap.size, 4, none⟩ = some (.slice MA s.imms.length mc) := b4'.cell 4; have blA := b4'.lt)
            | (have hbA : Blk wA w.heap.size 34 #[.int .i64 (i : Int), .int .i64 (j : Int), .int .i64 s.why, .slice A1 s.vars.length c1_, .slice MA s.imms.length mc] := b4'; have U34 : Upd (fun k => k = w.heap.size ∨ k = w3.heap.size) w3 wA := (((Upd.refl (S := fun k => k = w.heap.size ∨ k = w3.heap.size)).alloc (.cells #[] 3)).trans hu4 (fun _ _ q => .inr (At.some_.1 q))).trans uA (fun _ _ q => .inl q); have hA1 : ∀ k, At A1 k → w3.heap.size ≤ k ∧ k < wA.heap.size := fun k hk => ⟨(hat4 k hk).elim (fun q => by rw [At.some_] at q; omega) (fun q => by simp at q; omega), Nat.lt_of_lt_of_le (ho4.lt hk) uA.size⟩; have hoA := ho4.upd uA (fun k hk q => by have := hA1 k hk; omega); have hmA := hm3O.upd U34 (fun k _ hk q => by have := hk.2; omega); have hsA := U34.size; refine wpList_app rfl rfl T_i64s rfl (own_empty wA 2 1) rfl (hmA.upd (Upd.refl.alloc _ (S := Non)) (fun _ _ _ f => f)) (by simp) (icells_one s.imms) (by simp only [maxLen]; omega) (by omega) ?_; intro A2 c2 w5 ho5 hu5 hat5; rw [List.nil_append] at ho5; simp only [Nat.zero_add] at ho5 ⊢; have b5 := (hbA.alloc (.cells #[] 2)).upd hu5 (fun q => by rw [At.some_] at q; omega); have f5 := b5.frozen 4; have k6 : w5.cell? ⟨w.heap.size, 4, none⟩ = some (.slice MA s.imms.length mc) := b5.cell 4; have uB := updCell w5 w.heap.size 4 (.slice A2 s.imms.length c2); have b5' := b5.set_ 4 (.slice A2 s.imms.length c2); obtain ⟨wB, HB⟩ := nm (w5.setCell ⟨w.heap.size, 4, none⟩ (.slice A2 s.imms.length c2)); have eB := HB.out; rw [HB.out] at uB b5'))
          have hbB : Blk wB w.heap.size 34 #[.int .i64 (i : Int), .int .i64 (j : Int), .int .i64 s.why, .slice A1 s.vars.length c1_, .slice A2 s.imms.length c2] := b5'
          have h13 := hu4.size
          have h14 := hu5.size
          have h15 := uA.size
          have h16 := uB.size
          have hsz := hU.size
          have UB0 : Upd Non w wB := ((((((hU.then_non hU3).alloc (.cells #[] 3)).trans hu4 (fun k hk q => by rw [At.some_] at q; omega)).trans uA (fun k hk q => by omega)).alloc (.cells #[] 2)).trans hu5 (fun k hk q => by rw [At.some_] at q; omega)).trans uB (fun k hk q => by omega)
          obtain ⟨wD, HwD⟩ := nm wB.drew
          have uD : Upd Non wB wD := by rw [← HwD.out]; exact Upd.refl.drew
          have UB : Upd Non w wD := UB0.then_non uD
          have hbD := hbB.upd uD (fun f => f)
          have hMB := HH.out.non UB
          have c1 := hMB.c1
          obtain ⟨cs, hto, htc, htr⟩ := HH.out.t
          have htB := hto.upd UB (fun _ _ f => f)
          have hrw := HH.out.blk.lt
          have hgt : ¬ At a.t rb := fun q => by have e1 := htr rb q; rw [HH.out.me] at e1; cases e1
          have hgf : ¬ At a.f rb := fun q => by have e1 := HH.out.f.2 rb q; rw [HH.out.me] at e1; cases e1
          have HTF : Hid (∀ k, At a.f k → ¬ At a.t k) := fun k q q2 => by have e1 := HH.out.f.2 k q; rw [htr k q2] at e1; cases e1
          have hbt : ¬ At a.t w.heap.size := fun q => by have := hto.lt q; omega
          have htW : Hid (∀ k, At a.t k → k < w.heap.size) := fun k q => hto.lt q
          have HTC := Lib.hid htc
          have HTR := Lib.hid htr
          have oA1 : Hid (Own wD 3 1 A1 s.vars.length c1_ (icells s.vars)) := (((hoA.alloc _).upd hu5 (fun k hk q => by have := hA1 k hk; rw [At.some_] at q; omega)).upd uB (fun k hk q => by have := hA1 k hk; omega)).upd uD (fun _ _ f => f)
          have hA2 : ∀ k, At A2 k → wA.heap.size ≤ k := fun k hk => (hat5 k hk).elim (fun q => by rw [At.some_] at q; omega) (fun q => by simp at q; omega)
          have oA2 : Hid (Own wD 2 1 A2 s.imms.length c2 (icells s.imms)) := (ho5.upd uB (fun k hk q => by have := hA2 k hk; omega)).upd uD (fun _ _ f => f)
          clear htc htr hto
          have p0 := hbD.cell 0
          have p1 := hbD.cell 1
          have p2 := hbD.cell 2
          have p3 := hbD.cell 3
          have p4 := hbD.cell 4
          have hbkB : Blk wD rb 61 #[.slice a.l G.L.length a.lc, .slice a.t G.T.length a.tc, .slice a.f G.L.length a.fc, .slice a.s G.L.length a.sc] := hMB.blk
          have HN0 := Lib.hid (rfl : G.L.length = G.L.length)
          have hfo : Own wD 3 1 a.f G.L.length a.fc (icells (clsN G.L.length G.c)) := by have := hMB.f.1; rw [clL_cls] at this; simpa [clsN] using this
          have q6 : ∀ w', Upd Non wD w' → w'.cell? ⟨w.heap.size, 0, none⟩ = some (.int .i64 (i : Int)) ∧ w'.cell? ⟨w.heap.size, 1, none⟩ = some (.int .i64 (j : Int)) ∧ w'.cell? ⟨w.heap.size, 2, none⟩ = some (.int .i64 s.why) ∧ w'.cell? ⟨w.heap.size, 3, none⟩ = some (.slice A1 s.vars.length c1_) ∧ w'.cell? ⟨w.heap.size, 4, none⟩ = some (.slice A2 s.imms.length c2) := fun w' u => ⟨cell_upd p0 u (fun f => f), cell_upd p1 u (fun f => f), cell_upd p2 u (fun f => f), cell_upd p3 u (fun f => f), cell_upd p4 u (fun f => f)⟩
          have hbB := hbD.lt
          have hrD := Nat.lt_of_lt_of_le hrw UB.size
          refine wp_region_held_drew (S := fun w' => w'.cell? ⟨w.heap.size, 0, none⟩ = some (.int .i64 (i : Int)) ∧ w'.cell? ⟨w.heap.size, 1, none⟩ = some (.int .i64 (j : Int)) ∧ w'.cell? ⟨w.heap.size, 2, none⟩ = some (.int .i64 s.why) ∧ w'.cell? ⟨w.heap.size, 3, none⟩ = some (.slice A1 s.vars.length c1_) ∧ w'.cell? ⟨w.heap.size, 4, none⟩ = some (.slice A2 s.imms.length c2)) (by kernel_rfl) (by rw [HwD.out]; exact q6 _ (Upd.refl (S := Non))) (fun hHeld => ?_)
          rw [HwD.out] at hHeld ⊢
          refine wpAnyH_take (i := 0) (v := ?_) rfl (by kernel_rfl) (by kernel_rfl) (by kernel_rfl) (fun _ _ _ h => h) (Or.inl ⟨by rfl, ?_⟩) (by assumption) ?_
          rotate_left
          · intro w hSw; (try dsimp only at hSw); go_simp; try with_reducible rfl
          try simp only [put_y]
          try simp only [Act.put]
          try simp only [put_z]
          refine wpAnyH_take (i := 1) (v := ?_) rfl (by kernel_rfl) (by kernel_rfl) (by kernel_rfl) (fun _ _ _ h => h) (Or.inl ⟨by rfl, ?_⟩) (by assumption) ?_
          rotate_left
          · intro w hSw; (try dsimp only at hSw); go_simp; try with_reducible rfl
          try simp only [put_y]
          try simp only [Act.put]
          try simp only [put_z]
          refine wpAnyH_take (i := 2) (v := ?_) rfl (by kernel_rfl) (by kernel_rfl) (by kernel_rfl) (fun _ _ _ h => h) (Or.inl ⟨by rfl, ?_⟩) (by assumption) ?_
          rotate_left
          · intro w hSw; (try dsimp only at hSw); go_simp; try with_reducible rfl
          try simp only [put_y]
          try simp only [Act.put]
          try simp only [put_z]
          refine wpAnyH_take (i := 3) (v := ?_) rfl (by kernel_rfl) (by kernel_rfl) (by kernel_rfl) (fun _ _ _ h => h) (Or.inl ⟨by rfl, ?_⟩) (by assumption) ?_
          rotate_left
          · intro w hSw; (try dsimp only at hSw); go_simp; try with_reducible rfl
          try simp only [put_y]
          try simp only [Act.put]
          try simp only [put_z]
          refine wpAnyH_take (i := 5) (v := ?_) rfl (by kernel_rfl) (by kernel_rfl) (by kernel_rfl) (fun _ _ _ h => h) (Or.inl ⟨by rfl, ?_⟩) (by assumption) ?_
          rotate_left
          · intro w hSw; (try dsimp only at hSw); go_simp; try with_reducible rfl
          try simp only [put_y]
          try simp only [Act.put]
          try simp only [put_z]
          refine wpAnyH_ready (rs := [4, 6]) (by kernel_rfl) (by simp) ?_
          have hA9 := htB.alloc (.cells #[.int .i64 (i : Int), .int .i64 (j : Int), .int .i64 s.why, .slice A1 s.vars.length c1_, .slice A2 s.imms.length c2] 34)
          have q7 := q6 _ (Upd.refl.alloc (.cells #[.int .i64 (i : Int), .int .i64 (j : Int), .int .i64 s.why, .slice A1 s.vars.length c1_, .slice A2 s.imms.length c2] 34) (S := Non))
          have q8 : ∀ (w0 w' : World) (T : Nat → Prop), (Upd Non wD w0) → Upd T w0 w' → ¬ T w.heap.size → w'.cell? ⟨w.heap.size, 0, none⟩ = some (.int .i64 (i : Int)) ∧ w'.cell? ⟨w.heap.size, 1, none⟩ = some (.int .i64 (j : Int)) ∧ w'.cell? ⟨w.heap.size, 2, none⟩ = some (.int .i64 s.why) ∧ w'.cell? ⟨w.heap.size, 3, none⟩ = some (.slice A1 s.vars.length c1_) ∧ w'.cell? ⟨w.heap.size, 4, none⟩ = some (.slice A2 s.imms.length c2) := fun w0 w' T u0 u hT => by
            obtain ⟨z0, z1, z2, z3, z4⟩ := q6 _ u0
            exact ⟨cell_upd z0 u hT, cell_upd z1 u hT, cell_upd z2 u hT, cell_upd z3 u hT, cell_upd z4 u hT⟩
          refine AllReadyH.cons rfl (fun K hK => ?_) (AllReadyH.cons rfl (fun K hK => ?_) AllReadyH.nil)
          · go_simp
            refine hK.out _ _ ?_ (fun hHeld => ?_)
            · exact q6 _ (Upd.refl (S := Non))
            clear hK K
            try simp only [put_y]
            try simp only [Act.put]
            try simp only [put_z]
            refine wpAnyH_ready (rs := [6]) (by kernel_rfl) (by simp) ?_
            refine AllReadyH.cons rfl (fun K hK => ?_) AllReadyH.nil
            go_simp
            refine hK.out _ _ ?_ (fun hHeld => ?_)
            · exact q7
            clear hK K
            try simp only [put_y]
            try simp only [Act.put]
            try simp only [put_z]
            refine wpAnyH_ready (rs := [7]) (by kernel_rfl) (by simp) ?_
            refine AllReadyH.cons rfl (fun K hK => ?_) AllReadyH.nil
            refine step_app rfl rfl T_steps rfl hA9 rfl (Sl.new _ _ _) rfl (by simp [Value.oneCell']) (by simp only [maxLen]; omega) (by omega) ?_
            intro A8 c8 w8 ho8 hu8 hat8
            have hb8 := (hbkB.alloc (.cells #[.int .i64 (i : Int), .int .i64 (j : Int), .int .i64 s.why, .slice A1 s.vars.length c1_, .slice A2 s.imms.length c2] 34)).upd hu8 hgt
            have k8 := hb8.cell 1
            have f8 := hb8.frozen 1
            have hq8 := q8 _ w8 _ (Upd.refl.alloc _) hu8 hbt
            refine hK.out _ _ ?_ (fun hHeld => ?_)
            · exact hq8
            clear hK K
            try simp only [put_y]
            try simp only [Act.put]
            try simp only [put_z]
            refine wpAnyH_take (i := 8) (v := ?_) rfl (by kernel_rfl) (by kernel_rfl) (by kernel_rfl) (fun _ _ _ h => h) (Or.inl ⟨by rfl, ?_⟩) (by assumption) ?_
            rotate_left
            · intro w hSw; (try dsimp only at hSw); go_simp; try with_reducible rfl
            try simp only [put_y]
            try simp only [Act.put]
            try simp only [put_z]
            refine wpAnyH_take (i := 9) (v := ?_) rfl (by kernel_rfl) (by kernel_rfl) (by kernel_rfl) (fun _ _ _ h => h) (Or.inl ⟨by rfl, ?_⟩) (by assumption) ?_
            rotate_left
            · intro w hSw; (try dsimp only at hSw); go_simp; try with_reducible rfl
            try simp only [put_y]
            try simp only [Act.put]
            try simp only [put_z]
            refine wpAnyH_ready (rs := [10]) (by kernel_rfl) (by simp) ?_
            refine AllReadyH.cons rfl (fun K hK => ?_) AllReadyH.nil
            go_simp
            have uC := updCell w8 rb 1 (.slice A8 (G.T.length + 1) c8)
            refine hK.out _ _ ?_ (fun hHeld => ?_)
            · exact ⟨cell_upd hq8.1 uC (by omega), cell_upd hq8.2.1 uC (by omega), cell_upd hq8.2.2.1 uC (by omega), cell_upd hq8.2.2.2.1 uC (by omega), cell_upd hq8.2.2.2.2 uC (by omega)⟩
            clear hK K
            try simp only [put_y]
            try simp only [Act.put]
            try simp only [put_z]
            refine wpAnyH_done (by kernel_rfl) ?_ _
            have b9 := hb8.set_ 1 (.slice A8 (G.T.length + 1) c8)
            have hf9 := ((hfo.alloc (.cells #[.int .i64 (i : Int), .int .i64 (j : Int), .int .i64 s.why, .slice A1 s.vars.length c1_, .slice A2 s.imms.length c2] 34)).upd hu8 HTF.out).upd uC (fun k hk e => by rw [e] at hk; exact hgf hk)
            have hsD := UB.size
            have ho9 := ho8.upd uC (fun k hk e => by rw [e] at hk; exact (hat8 _ hk).elim (fun q => hgt q) (fun q => by simp at q; omega))
            have oV9 := ((oA1.out.alloc (.cells #[.int .i64 (i : Int), .int .i64 (j : Int), .int .i64 s.why, .slice A1 s.vars.length c1_, .slice A2 s.imms.length c2] 34)).upd hu8 (fun k hk q => by have := hA1 k hk; have := htW.out k q; omega)).upd uC (fun k hk q => by have := hA1 k hk; omega)
            have oM9 := ((oA2.out.alloc (.cells #[.int .i64 (i : Int), .int .i64 (j : Int), .int .i64 s.why, .slice A1 s.vars.length c1_, .slice A2 s.imms.length c2] 34)).upd hu8 (fun k hk q => by have := hA2 k hk; have := htW.out k q; omega)).upd uC (fun k hk q => by have := hA2 k hk; omega)
            have U9 : Upd (fun k => k = rb ∨ At a.t k ∨ At a.f k) w _ := (((UB.alloc _).mono (T := fun k => k = rb ∨ At a.t k ∨ At a.f k) (fun _ _ f => f.elim)).trans hu8 (fun _ _ q => .inr (.inl q))).trans uC (fun _ _ q => .inl q)
            obtain ⟨w9, H9⟩ := nm (w8.setCell ⟨rb, 1, none⟩ (.slice A8 (G.T.length + 1) c8))
            have e9 := H9.out
            rw [H9.out] at b9 hf9 ho9 oV9 oM9 U9
            have c92 := b9.cell 2
            have HA8 : Hid (∀ k, At A8 k → At a.t k ∨ (w.heap.size ≤ k ∧ ¬ (At A1 k ∨ At A2 k))) := fun k hk => (hat8 k hk).elim (fun q => .inl q) (fun q => .inr (by
              have : k = wD.heap.size + 1 := by simpa using q
              refine ⟨by omega, fun z => ?_⟩
              rcases z with z | z
              · have := oA1.out.lt z; omega
              · have := oA2.out.lt z; omega))
            have HVV : Hid (∀ k, (At A1 k ∨ At A2 k) → w.heap.size ≤ k) := fun k hk => by
              rcases hk with z | z
              · have := hA1 k z; omega
              · have := hA2 k z; omega
            have hz := HGW.out.wf.named.lt hil
            have hz2 := HGW.out.wf.named.lt hjl
            have hsm := HGW.out.wf.small
            rw [Hz.out] at hz
            rw [Hz2.out] at hz2
            clear hat8 hb8 k8 f8 hq8 ho8 hfo hu8 uC hA1 hA2 q6 q7 q8 hA9 hbkB p0 p1 p2 p3 p4
            go_wp2_with fail
            refine (joinO_c w9 a.f G.L.length a.fc G.c z z2 hz hz2 (by omega) hf9).mono ?_
            rintro e w6 ⟨rfl, hf6, hu6⟩
            have hT6 := ho9.upd hu6 (fun k hk q => (HA8.out k hk).elim (HTF.out k q) (fun e => by have := HH.out.f.1.lt q; omega))
            have hU6 := U9.trans hu6 (fun _ _ q => .inr (.inr q))
            have hb6 := b9.upd hu6 hgf
            have oV6 := oV9.upd hu6 (fun k hk q => by have := HVV.out k (.inl hk); have := HH.out.f.1.lt q; omega)
            have oM6 := oM9.upd hu6 (fun k hk q => by have := HVV.out k (.inr hk); have := HH.out.f.1.lt q; omega)
            go_wp2_with fail
            go_ret2
            refine ⟨by rw [HR.out]; rfl, ?_⟩
            rw [HG.out]
            unfold EG.merge
            rw [← HJ.out]
            refine RM.merge (V := fun k => At A1 k ∨ At A2 k) HH.out HTC.out HTR.out hb6 (by unfold stpCells; rw [hi'.out, hj'.out]; exact hT6) hf6 hU6 HA8.out (fun k hk => ⟨HVV.out k hk, hk.elim (fun z => oV6.lt z) (fun z => oM6.lt z)⟩) (oV6.ints.mono (fun k _ hk => .inl hk)) ((show Ints w6 (At A2) A2 s.imms from oM6.sl).mono (fun k _ hk => .inr hk)) oV6.le oM6.le
          · go_simp
            refine hK.out _ _ ?_ (fun hHeld => ?_)
            · exact q7
            clear hK K
            try simp only [put_y]
            try simp only [Act.put]
            try simp only [put_z]
            refine wpAnyH_ready (rs := [4]) (by kernel_rfl) (by simp) ?_
            refine AllReadyH.cons rfl (fun K hK => ?_) AllReadyH.nil
            go_simp
            refine hK.out _ _ ?_ (fun hHeld => ?_)
            · exact q7
            clear hK K
            try simp only [put_y]
            try simp only [Act.put]
            try simp only [put_z]
            refine wpAnyH_ready (rs := [7]) (by kernel_rfl) (by simp) ?_
            refine AllReadyH.cons rfl (fun K hK => ?_) AllReadyH.nil
            refine step_app rfl rfl T_steps rfl hA9 rfl (Sl.new _ _ _) rfl (by simp [Value.oneCell']) (by simp only [maxLen]; omega) (by omega) ?_
            intro A8 c8 w8 ho8 hu8 hat8
            have hb8 := (hbkB.alloc (.cells #[.int .i64 (i : Int), .int .i64 (j : Int), .int .i64 s.why, .slice A1 s.vars.length c1_, .slice A2 s.imms.length c2] 34)).upd hu8 hgt
            have k8 := hb8.cell 1
            have f8 := hb8.frozen 1
            have hq8 := q8 _ w8 _ (Upd.refl.alloc _) hu8 hbt
            refine hK.out _ _ ?_ (fun hHeld => ?_)
            · exact hq8
            clear hK K
            try simp only [put_y]
            try simp only [Act.put]
            try simp only [put_z]
            refine wpAnyH_take (i := 8) (v := ?_) rfl (by kernel_rfl) (by kernel_rfl) (by kernel_rfl) (fun _ _ _ h => h) (Or.inl ⟨by rfl, ?_⟩) (by assumption) ?_
            rotate_left
            · intro w hSw; (try dsimp only at hSw); go_simp; try with_reducible rfl
            try simp only [put_y]
            try simp only [Act.put]
            try simp only [put_z]
            refine wpAnyH_take (i := 9) (v := ?_) rfl (by kernel_rfl) (by kernel_rfl) (by kernel_rfl) (fun _ _ _ h => h) (Or.inl ⟨by rfl, ?_⟩) (by assumption) ?_
            rotate_left
            · intro w hSw; (try dsimp only at hSw); go_simp; try with_reducible rfl
            try simp only [put_y]
            try simp only [Act.put]
            try simp only [put_z]
            refine wpAnyH_ready (rs := [10]) (by kernel_rfl) (by simp) ?_
            refine AllReadyH.cons rfl (fun K hK => ?_) AllReadyH.nil
            go_simp
            have uC := updCell w8 rb 1 (.slice A8 (G.T.length + 1) c8)
            refine hK.out _ _ ?_ (fun hHeld => ?_)
            · exact ⟨cell_upd hq8.1 uC (by omega), cell_upd hq8.2.1 uC (by omega), cell_upd hq8.2.2.1 uC (by omega), cell_upd hq8.2.2.2.1 uC (by omega), cell_upd hq8.2.2.2.2 uC (by omega)⟩
            clear hK K
            try simp only [put_y]
            try simp only [Act.put]
            try simp only [put_z]
            refine wpAnyH_done (by kernel_rfl) ?_ _
            have b9 := hb8.set_ 1 (.slice A8 (G.T.length + 1) c8)
            have hf9 := ((hfo.alloc (.cells #[.int .i64 (i : Int), .int .i64 (j : Int), .int .i64 s.why, .slice A1 s.vars.length c1_, .slice A2 s.imms.length c2] 34)).upd hu8 HTF.out).upd uC (fun k hk e => by rw [e] at hk; exact hgf hk)
            have hsD := UB.size
            have ho9 := ho8.upd uC (fun k hk e => by rw [e] at hk; exact (hat8 _ hk).elim (fun q => hgt q) (fun q => by simp at q; omega))
            have oV9 := ((oA1.out.alloc (.cells #[.int .i64 (i : Int), .int .i64 (j : Int), .int .i64 s.why, .slice A1 s.vars.length c1_, .slice A2 s.imms.length c2] 34)).upd hu8 (fun k hk q => by have := hA1 k hk; have := htW.out k q; omega)).upd uC (fun k hk q => by have := hA1 k hk; omega)
            have oM9 := ((oA2.out.alloc (.cells #[.int .i64 (i : Int), .int .i64 (j : Int), .int .i64 s.why, .slice A1 s.vars.length c1_, .slice A2 s.imms.length c2] 34)).upd hu8 (fun k hk q => by have := hA2 k hk; have := htW.out k q; omega)).upd uC (fun k hk q => by have := hA2 k hk; omega)
            have U9 : Upd (fun k => k = rb ∨ At a.t k ∨ At a.f k) w _ := (((UB.alloc _).mono (T := fun k => k = rb ∨ At a.t k ∨ At a.f k) (fun _ _ f => f.elim)).trans hu8 (fun _ _ q => .inr (.inl q))).trans uC (fun _ _ q => .inl q)
            obtain ⟨w9, H9⟩ := nm (w8.setCell ⟨rb, 1, none⟩ (.slice A8 (G.T.length + 1) c8))
            have e9 := H9.out
            rw [H9.out] at b9 hf9 ho9 oV9 oM9 U9
            have c92 := b9.cell 2
            have HA8 : Hid (∀ k, At A8 k → At a.t k ∨ (w.heap.size ≤ k ∧ ¬ (At A1 k ∨ At A2 k))) := fun k hk => (hat8 k hk).elim (fun q => .inl q) (fun q => .inr (by
              have : k = wD.heap.size + 1 := by simpa using q
              refine ⟨by omega, fun z => ?_⟩
              rcases z with z | z
              · have := oA1.out.lt z; omega
              · have := oA2.out.lt z; omega))
            have HVV : Hid (∀ k, (At A1 k ∨ At A2 k) → w.heap.size ≤ k) := fun k hk => by
              rcases hk with z | z
              · have := hA1 k z; omega
              · have := hA2 k z; omega
            have hz := HGW.out.wf.named.lt hil
            have hz2 := HGW.out.wf.named.lt hjl
            have hsm := HGW.out.wf.small
            rw [Hz.out] at hz
            rw [Hz2.out] at hz2
            clear hat8 hb8 k8 f8 hq8 ho8 hfo hu8 uC hA1 hA2 q6 q7 q8 hA9 hbkB p0 p1 p2 p3 p4
            go_wp2_with fail
            refine (joinO_c w9 a.f G.L.length a.fc G.c z z2 hz hz2 (by omega) hf9).mono ?_
            rintro e w6 ⟨rfl, hf6, hu6⟩
            have hT6 := ho9.upd hu6 (fun k hk q => (HA8.out k hk).elim (HTF.out k q) (fun e => by have := HH.out.f.1.lt q; omega))
            have hU6 := U9.trans hu6 (fun _ _ q => .inr (.inr q))
            have hb6 := b9.upd hu6 hgf
            have oV6 := oV9.upd hu6 (fun k hk q => by have := HVV.out k (.inl hk); have := HH.out.f.1.lt q; omega)
            have oM6 := oM9.upd hu6 (fun k hk q => by have := HVV.out k (.inr hk); have := HH.out.f.1.lt q; omega)
            go_wp2_with fail
            go_ret2
            refine ⟨by rw [HR.out]; rfl, ?_⟩
            rw [HG.out]
            unfold EG.merge
            rw [← HJ.out]
            refine RM.merge (V := fun k => At A1 k ∨ At A2 k) HH.out HTC.out HTR.out hb6 (by unfold stpCells; rw [hi'.out, hj'.out]; exact hT6) hf6 hU6 HA8.out (fun k hk => ⟨HVV.out k hk, hk.elim (fun z => oV6.lt z) (fun z => oM6.lt z)⟩) (oV6.ints.mono (fun k _ hk => .inl hk)) ((show Ints w6 (At A2) A2 s.imms from oM6.sl).mono (fun k _ hk => .inr hk)) oV6.le oM6.le
      · have hx : uniOk G s = false := by rw [HU.out]; exact decide_eq_false h3
        have HR : Hid (uniRet G s = .tuple #[.bool false, .int .i64 1]) := by show _ = _; simp [uniRet, HC.out, hx]
        have HG : Hid (uniG G s = G) := by show _ = _; simp [uniG, HC.out, hx]
        have hb4 : ((sortsF G.L).getD i 0 != (sortsF G.L).getD j 0) = true := by simpa using h3
        generalize (sortsF G.L).getD i 0 = y at *
        generalize (sortsF G.L).getD j 0 = y2 at *
        generalize G.L.length = n at *
        clear hM h HU HC h3 hx f1 f2 es es'
        rw [hi, hj]
        rw [hi, hj] at e0
        go_enter Try.func30, Try.ntmps30
        go_wp2_with fail
        refine C1.out.mono ?_
        rintro e w' ⟨rfl, rfl⟩
        go_wp2_with fail
        refine C2.out.mono ?_
        rintro e w' ⟨rfl, rfl⟩
        go_wp2_with fail
        go_quiet (fail)
        go_wp2_with fail
        go_ret2
        exact ⟨by rw [HR.out]; rfl, by rw [HG.out]; exact RNext.same HH.out (hU.drewN _)⟩
    · have hx : uniOk G s = false := by simp only [uniOk, decide_eq_false_iff_not]; rintro ⟨_, _, p3, p4, _⟩; exact h2 ⟨p3, p4⟩
      have HR : Hid (uniRet G s = .tuple #[.bool false, .int .i64 1]) := by show _ = _; simp [uniRet, uniNew, hx]
      have HG : Hid (uniG G s = G) := by show _ = _; simp [uniG, uniNew, hx]
      have f2 : findF G s.r = -1 := by unfold findF; rw [if_neg h2]
      have f1 : findF G s.l = (G.c s.l.toNat : Int) := by unfold findF; rw [if_pos h1]
      rw [f1] at C1
      rw [f2] at C2
      generalize G.c s.l.toNat = x at *
      have g1 : decide ((x : Int) < 0) = false := by simp
      clear h1 h2 hx hM h f1 f2
      go_enter Try.func30, Try.ntmps30
      go_wp2_with fail
      refine C1.out.mono ?_
      rintro e w' ⟨rfl, rfl⟩
      go_wp2_with fail
      refine C2.out.mono ?_
      rintro e w' ⟨rfl, rfl⟩
      go_wp2_with fail
      go_quiet (fail)
      go_wp2_with fail
      go_ret2
      exact ⟨by rw [HR.out]; rfl, by rw [HG.out]; exact RNext.same HH.out (hU.drewN _)⟩
  · have hx : uniOk G s = false := by simp only [uniOk, decide_eq_false_iff_not]; rintro ⟨a, b, _⟩; exact h1 ⟨a, b⟩
    have HR : Hid (uniRet G s = .tuple #[.bool false, .int .i64 1]) := by show _ = _; simp [uniRet, uniNew, hx]
    have HG : Hid (uniG G s = G) := by show _ = _; simp [uniG, uniNew, hx]
    have f1 : findF G s.l = -1 := by unfold findF; rw [if_neg h1]
    rw [f1] at C1
    obtain ⟨x, Hx⟩ := nm (findF G s.r)
    rw [Hx.out] at C2
    clear h1 hx hM h f1
    go_enter Try.func30, Try.ntmps30
    go_wp2_with fail
    refine C1.out.mono ?_
    rintro e w' ⟨rfl, rfl⟩
    go_wp2_with fail
    refine C2.out.mono ?_
    rintro e w' ⟨rfl, rfl⟩
    go_wp2_with fail
    go_quiet (fail)
    go_wp2_with fail
    go_ret2
    exact ⟨by rw [HR.out]; rfl, by rw [HG.out]; exact RNext.same HH.out (hU.drewN _)⟩
end Go.Proofs.Ytigambcefdeaoaa
