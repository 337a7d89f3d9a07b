/-
  What rules.Valid does: it tells whether a rule is valid.
-/
import Derived.Test.YtblkgjdhaibhgaaRulC
import Derived.Test.YtblkgjdhaibhgaaRulN
import Derived.Test.YtblkgjdhaibhgaaRulK
import Derived.Test.YtblkgjdhaibhgaaRulQ
namespace Go.Proofs.Ytblkgjdhaibhgaa
open Go.RowKit

theorem rl_cells {w : World} {b : Nat} {t : TypeId} {r : Rl} {a : RlA} (h : Blk w b t (rlCells r a)) :
    w.cell? ⟨b, 0, none⟩ = some (.string r.name) ∧ w.cell? ⟨b, 1, none⟩ = some (.int .i64 r.l.v) ∧ w.cell? ⟨b, 2, none⟩ = some (.int .i64 r.l.op) ∧ w.cell? ⟨b, 3, none⟩ = some (.int .i64 r.l.imm) ∧ w.cell? ⟨b, 4, none⟩ = some (.int .i64 r.l.iv) ∧ w.cell? ⟨b, 5, none⟩ = some (.slice a.la r.l.kids.length a.lc) ∧
    w.cell? ⟨b, 6, none⟩ = some (.int .i64 r.r.v) ∧ w.cell? ⟨b, 7, none⟩ = some (.int .i64 r.r.op) ∧ w.cell? ⟨b, 8, none⟩ = some (.int .i64 r.r.imm) ∧ w.cell? ⟨b, 9, none⟩ = some (.int .i64 r.r.iv) ∧ w.cell? ⟨b, 10, none⟩ = some (.slice a.ra r.r.kids.length a.rc) ∧
    w.cell? ⟨b, 11, none⟩ = some (.slice a.ca r.conds.length a.cc) ∧ w.cell? ⟨b, 12, none⟩ = some (.int .i64 r.vars) ∧ w.cell? ⟨b, 13, none⟩ = some (.int .i64 r.imms) := by
  refine ⟨?_, ?_, ?_, ?_, ?_, ?_, ?_, ?_, ?_, ?_, ?_, ?_, ?_, ?_⟩ <;> (rw [h.cell]; rfl)
theorem VBlk.ints {w : World} {g : Nat} {vs : List Int} (h : VBlk w g vs) : Ints w (fun _ => True) (some ⟨g, 0, none⟩) vs := by
  have := Sl.of_blk (F := fun _ => True) trivial h vs.length
  unfold Ints
  have e : (icells vs).toArray.toList.take vs.length = icells vs := by
    rw [List.take_of_length_le (by simp [icells])]
  rw [e] at this
  exact this
/-- The sizes that the walks ask for. -/
structure RlSz (x : Rl) : Prop where
  l : x.l.size ≤ 1000000000000
  r : x.r.size ≤ 1000000000000
  c : x.conds.length ≤ 1000000000000
  n : x.name.size ≤ 1000000000000000
theorem VBlk.new (w : World) (n : Nat) : VBlk (w.alloc (.cells (Array.replicate n (.int .i64 0)) 3)) w.heap.size (List.replicate n 0) := by
  unfold VBlk
  rw [show (icells (List.replicate n 0)).toArray = Array.replicate n (.int .i64 0) by simp [icells]]
  exact Blk.new _ _ _

set_option maxRecDepth 100000 in
set_option maxHeartbeats 4000000 in
theorem rlValid_c (r : Rl) (a : RlA) (F : Nat → Prop) (w : World) (hk : RlK w F r a) (hz : RlSz r) :
    Calls Try.prog 20 #[rlv r a] w fun e w' => e = .returned (.bool (implF r)) ∧ Upd Non w w' := by
  obtain ⟨W, HW⟩ := nm (w.alloc (.cells (rlCells r a) 33))
  have hU : Upd Non w W := by rw [← HW.out]; exact Upd.refl.alloc _
  have hb : Blk W w.heap.size 33 (rlCells r a) := by rw [← HW.out]; exact Blk.new _ _ _
  have hsz : W.heap.size = w.heap.size + 1 := by rw [← HW.out]; simp
  have e0 := HW.out
  have hK := (hk.mono (G := fun k => k < w.heap.size) (fun _ h _ => h)).upd hU (fun _ _ _ f => f)
  have HC := Lib.hid (fun (w' : World) (u : Upd Non W w') => rl_cells (hb.upd u (fun f => f)))
  obtain ⟨c0, c1, c2, c3, c4, c5, c6, c7, c8, c9, c10, c11, c12, c13⟩ := HC.out W Upd.refl
  have CL := Lib.hid (ptValid_c r.l W _ a.la a.lc r.vars r.imms hK.l hz.l)
  have CR := Lib.hid (fun (w' : World) (u : Upd Non W w') => ptValid_c r.r w' _ a.ra a.rc r.vars r.imms (PtK.upd u (fun _ _ _ f => f) _ _ _ hK.r) hz.r)
  have CN := Lib.hid (fun w' => rlValidName_c r.name w' hz.n)
  have HZ := Lib.hid hz
  have HK := Lib.hid hK
  unfold pv at CL CR
  unfold rlv
  unfold rlCells at e0 ⊢
  obtain ⟨R, HR⟩ := nm (implF r)
  rw [HR.out]
  have HR1 : Hid (R = (decide (r.l.v = 0) && validF r.l r.vars r.imms && validF r.r r.vars r.imms && nameF r.name && decide (r.conds.length ≤ 6) && implG r)) := HR.out.symm
  have HVL : Hid (∀ b, validF r.l r.vars r.imms = b → validF r.l r.vars r.imms = b) := fun _ h => h
  obtain ⟨vl, Hvl⟩ := nm (validF r.l r.vars r.imms)
  obtain ⟨vr, Hvr⟩ := nm (validF r.r r.vars r.imms)
  obtain ⟨vn, Hvn⟩ := nm (nameF r.name)
  rw [Hvl.out] at CL HR1
  rw [Hvr.out] at CR HR1
  rw [Hvn.out] at CN HR1
  clear hk hz hK HR HVL hb
  by_cases hv : r.l.v = 0
  · have t1 : (r.l.v != 0) = false := by simp [hv]
    have HR2 : Hid (R = (vl && vr && vn && decide (r.conds.length ≤ 6) && implG r)) := by show _ = _; rw [HR1.out, decide_eq_true hv]; simp
    have HLV := Lib.hid hv
    clear hv HR1
    go_enter Try.func20, Try.ntmps20
    go_wp2_with fail
    refine CL.out.mono ?_
    rintro e w1 ⟨rfl, u1⟩
    have HU := hU.then_non u1
    obtain ⟨c0, c1, c2, c3, c4, c5, c6, c7, c8, c9, c10, c11, c12, c13⟩ := HC.out _ u1
    cases vl with
    | false =>
      have HF : Hid (R = false) := HR2.out
      go_wp2_with fail
      go_ret
      exact ⟨by rw [HF.out]; rfl, HU⟩
    | true =>
      go_wp2_with fail
      refine (CR.out _ u1).mono ?_
      rintro e w2 ⟨rfl, u2'⟩
      have u2 := u1.then_non u2'
      have HU := hU.then_non u2
      obtain ⟨c0, c1, c2, c3, c4, c5, c6, c7, c8, c9, c10, c11, c12, c13⟩ := HC.out _ u2
      cases vr with
      | false =>
        have HF : Hid (R = false) := HR2.out
        go_wp2_with fail
        go_ret
        exact ⟨by rw [HF.out]; rfl, HU⟩
      | true =>
        go_wp2_with fail
        refine (CN.out _).mono ?_
        rintro e w3 ⟨rfl, q3, rfl⟩
        have u3 : Upd Non W (w2.drewN q3) := u2.drewN _
        have HU := hU.then_non u3
        obtain ⟨w3, Hw3⟩ := nm (w2.drewN q3)
        rw [Hw3.out] at u3 HU ⊢
        obtain ⟨c0, c1, c2, c3, c4, c5, c6, c7, c8, c9, c10, c11, c12, c13⟩ := HC.out _ u3
        cases vn with
        | false =>
          have HF : Hid (R = false) := HR2.out
          go_wp2_with fail
          go_ret
          exact ⟨by rw [HF.out]; rfl, HU⟩
        | true =>
          by_cases h6 : r.conds.length ≤ 6
          · have t2 : decide ((6 : Int) < (r.conds.length : Int)) = false := decide_eq_false (by omega)
            have HR3 : Hid (R = implG r) := by show _ = _; rw [HR2.out, decide_eq_true h6]; rfl
            have H6 := Lib.hid h6
            clear h6 HR2 CL CR CN
            obtain ⟨hvl, hshl⟩ : (0 ≤ r.vars ∧ r.vars ≤ 6 ∧ 0 ≤ r.imms ∧ r.imms ≤ 6) ∧ shp r.l 0 r.imms r.vars.toNat = true := by
              have h := Hvl.out
              unfold validF at h
              simp only [Bool.and_eq_true, decide_eq_true_eq] at h
              obtain ⟨v1, a1, _⟩ := vPt_fst.1 h.2
              rw [List.length_replicate] at a1
              exact ⟨by omega, a1⟩
            have hshr : shp r.r 0 r.imms r.vars.toNat = true := by
              have h := Hvr.out
              unfold validF at h
              simp only [Bool.and_eq_true, decide_eq_true_eq] at h
              obtain ⟨v1, a1, _⟩ := vPt_fst.1 h.2
              rw [List.length_replicate] at a1
              exact a1
            have HSL := Lib.hid hshl
            have HSR := Lib.hid hshr
            obtain ⟨n, Hn⟩ : ∃ n : Nat, Hid (r.vars = (n : Int)) := Int.eq_ofNat_of_zero_le hvl.1
            obtain ⟨m, Hm⟩ : ∃ m : Nat, Hid (r.imms = (m : Int)) := Int.eq_ofNat_of_zero_le hvl.2.2.1
            have hn6 : n ≤ 6 := by have := Hn.out; omega
            have hm6 : m ≤ 6 := by have := Hm.out; omega
            obtain ⟨N, HN⟩ := nm (n + 1)
            obtain ⟨M, HM⟩ := nm (m + 1)
            have hN7 : N ≤ 7 := by rw [← HN.out]; omega
            have hM7 : M ≤ 7 := by rw [← HM.out]; omega
            have hwN : IntKind.i64.wrap ((n : Int) + 1) = (N : Int) := by rw [i64w_of (by unfold I64; omega), ← HN.out]; omega
            have hwM : IntKind.i64.wrap ((m : Int) + 1) = (M : Int) := by rw [i64w_of (by unfold I64; omega), ← HM.out]; omega
            have mkN := run_mk T_ints' zero_int_ rfl N (by omega) (by omega)
            have mkM := run_mk T_ints' zero_int_ rfl M (by omega) (by omega)
            rw [Hn.out] at c12
            rw [Hm.out] at c13
            clear hvl hshl hshr
            go_upto_region 3 with fail
            go_cut [3, 4] (fun v i wx => ∃ gv gi : Nat, v = .slice (some ⟨gv, 0, none⟩) N N ∧ i = .slice (some ⟨gi, 0, none⟩) M M ∧ VBlk wx gv (List.replicate N 0) ∧ VBlk wx gi (List.replicate M 0) ∧ gv ≠ gi ∧ W.heap.size ≤ gv ∧ W.heap.size ≤ gi ∧ Upd Non W wx)
            case first =>
              obtain ⟨wD, HwD⟩ := nm w3.drew
              have uD : Upd Non w3 wD := by rw [← HwD.out]; exact Upd.refl.drew
              have vD := u3.then_non uD
              have hsD := vD.size
              refine wp_region_held_drew (S := fun w' => w'.cell? ⟨w.heap.size, 12, none⟩ = some (.int .i64 n) ∧ w'.cell? ⟨w.heap.size, 13, none⟩ = some (.int .i64 m)) (by kernel_rfl) (by rw [HwD.out]; exact ⟨cell_upd c12 uD (fun f => f), cell_upd c13 uD (fun f => f)⟩) (fun hHeld => ?_)
              rw [HwD.out] at hHeld ⊢
              refine wpAnyH_take (i := 0) (v := ?_) rfl (by kernel_rfl) (by kernel_rfl) (by kernel_rfl) (fun _ _ _ h => h) (Or.inl ⟨by rfl, ?_⟩) (by assumption) ?_
              rotate_left
              · intro w hSw; (try dsimp only at hSw); go_simp; try with_reducible rfl
              try simp only [put_y]
              try simp only [Act.put]
              try simp only [put_z]
              refine wpAnyH_take (i := 1) (v := ?_) rfl (by kernel_rfl) (by kernel_rfl) (by kernel_rfl) (fun _ _ _ h => h) (Or.inl ⟨by rfl, ?_⟩) (by assumption) ?_
              rotate_left
              · intro w hSw; (try dsimp only at hSw); go_simp; try with_reducible rfl
              try simp only [put_y]
              try simp only [Act.put]
              try simp only [put_z]
              refine wpAnyH_take (i := 2) (v := ?_) rfl (by kernel_rfl) (by kernel_rfl) (by kernel_rfl) (fun _ _ _ h => h) (Or.inl ⟨by rfl, ?_⟩) (by assumption) ?_
              rotate_left
              · intro w hSw; (try dsimp only at hSw); go_simp; try with_reducible rfl
              try simp only [put_y]
              try simp only [Act.put]
              try simp only [put_z]
              refine wpAnyH_take (i := 4) (v := ?_) rfl (by kernel_rfl) (by kernel_rfl) (by kernel_rfl) (fun _ _ _ h => h) (Or.inl ⟨by rfl, ?_⟩) (by assumption) ?_
              rotate_left
              · intro w hSw; (try dsimp only at hSw); go_simp; try with_reducible rfl
              try simp only [put_y]
              try simp only [Act.put]
              try simp only [put_z]
              refine wpAnyH_take (i := 5) (v := ?_) rfl (by kernel_rfl) (by kernel_rfl) (by kernel_rfl) (fun _ _ _ h => h) (Or.inl ⟨by rfl, ?_⟩) (by assumption) ?_
              rotate_left
              · intro w hSw; (try dsimp only at hSw); go_simp; try with_reducible rfl
              try simp only [put_y]
              try simp only [Act.put]
              try simp only [put_z]
              refine wpAnyH_take (i := 6) (v := ?_) rfl (by kernel_rfl) (by kernel_rfl) (by kernel_rfl) (fun _ _ _ h => h) (Or.inl ⟨by rfl, ?_⟩) (by assumption) ?_
              rotate_left
              · intro w hSw; (try dsimp only at hSw); go_simp; try with_reducible rfl
              try simp only [put_y]
              try simp only [Act.put]
              try simp only [put_z]
              refine wpAnyH_ready (rs := [3, 7]) (by kernel_rfl) (by simp) ?_
              refine AllReadyH.cons rfl (fun K hK => ?_) (AllReadyH.cons rfl (fun K hK => ?_) AllReadyH.nil)
              · go_simp
                have uA : Upd Non wD (wD.alloc (.cells (Array.replicate N (.int .i64 0)) 3)) := Upd.refl.alloc _
                refine hK.out _ _ ?_ (fun hHeld => ?_)
                · exact ⟨cell_upd c12 (uD.then_non uA) (fun f => f), cell_upd c13 (uD.then_non uA) (fun f => f)⟩
                clear hK K
                try simp only [put_y]
                try simp only [Act.put]
                try simp only [put_z]
                have hA := VBlk.new wD N
                have hAs : (wD.alloc (.cells (Array.replicate N (.int .i64 0)) 3)).heap.size = wD.heap.size + 1 := by simp
                obtain ⟨wA, HwA⟩ := nm (wD.alloc (.cells (Array.replicate N (.int .i64 0)) 3))
                rw [HwA.out] at uA hA hAs hHeld ⊢
                refine wpAnyH_take (i := 8) (v := ?_) rfl (by kernel_rfl) (by kernel_rfl) (by kernel_rfl) (fun _ _ _ h => h) (Or.inl ⟨by rfl, ?_⟩) (by assumption) ?_
                rotate_left
                · intro w hSw; (try dsimp only at hSw); go_simp; try with_reducible rfl
                try simp only [put_y]
                try simp only [Act.put]
                try simp only [put_z]
                refine wpAnyH_ready (rs := [7]) (by kernel_rfl) (by simp) ?_
                refine AllReadyH.cons rfl (fun K hK => ?_) AllReadyH.nil
                go_simp
                have uB : Upd Non wA (wA.alloc (.cells (Array.replicate M (.int .i64 0)) 3)) := Upd.refl.alloc _
                have uC := (uD.then_non uA).then_non uB
                refine hK.out _ _ ?_ (fun hHeld => ?_)
                · exact ⟨cell_upd c12 uC (fun f => f), cell_upd c13 uC (fun f => f)⟩
                clear hK K
                try simp only [put_y]
                try simp only [Act.put]
                try simp only [put_z]
                refine wpAnyH_take (i := 9) (v := ?_) rfl (by kernel_rfl) (by kernel_rfl) (by kernel_rfl) (fun _ _ _ h => h) (Or.inl ⟨by rfl, ?_⟩) (by assumption) ?_
                rotate_left
                · intro w hSw; (try dsimp only at hSw); go_simp; try with_reducible rfl
                try simp only [put_y]
                try simp only [Act.put]
                try simp only [put_z]
                refine wpAnyH_done (by kernel_rfl) ?_ _
                go_wp2_with fail
                go_meet
                case rel => exact ⟨wD.heap.size, wD.heap.size + 1, rfl, rfl, Blk.upd hA uB (fun f => f), by rw [← hAs]; exact VBlk.new wA M, by omega, by omega, by omega, u3.then_non uC⟩
              · go_simp
                have uA : Upd Non wD (wD.alloc (.cells (Array.replicate M (.int .i64 0)) 3)) := Upd.refl.alloc _
                refine hK.out _ _ ?_ (fun hHeld => ?_)
                · exact ⟨cell_upd c12 (uD.then_non uA) (fun f => f), cell_upd c13 (uD.then_non uA) (fun f => f)⟩
                clear hK K
                try simp only [put_y]
                try simp only [Act.put]
                try simp only [put_z]
                have hA := VBlk.new wD M
                have hAs : (wD.alloc (.cells (Array.replicate M (.int .i64 0)) 3)).heap.size = wD.heap.size + 1 := by simp
                obtain ⟨wA, HwA⟩ := nm (wD.alloc (.cells (Array.replicate M (.int .i64 0)) 3))
                rw [HwA.out] at uA hA hAs hHeld ⊢
                refine wpAnyH_ready (rs := [3]) (by kernel_rfl) (by simp) ?_
                refine AllReadyH.cons rfl (fun K hK => ?_) AllReadyH.nil
                go_simp
                have uB : Upd Non wA (wA.alloc (.cells (Array.replicate N (.int .i64 0)) 3)) := Upd.refl.alloc _
                have uC := (uD.then_non uA).then_non uB
                refine hK.out _ _ ?_ (fun hHeld => ?_)
                · exact ⟨cell_upd c12 uC (fun f => f), cell_upd c13 uC (fun f => f)⟩
                clear hK K
                try simp only [put_y]
                try simp only [Act.put]
                try simp only [put_z]
                refine wpAnyH_take (i := 8) (v := ?_) rfl (by kernel_rfl) (by kernel_rfl) (by kernel_rfl) (fun _ _ _ h => h) (Or.inl ⟨by rfl, ?_⟩) (by assumption) ?_
                rotate_left
                · intro w hSw; (try dsimp only at hSw); go_simp; try with_reducible rfl
                try simp only [put_y]
                try simp only [Act.put]
                try simp only [put_z]
                refine wpAnyH_take (i := 9) (v := ?_) rfl (by kernel_rfl) (by kernel_rfl) (by kernel_rfl) (fun _ _ _ h => h) (Or.inl ⟨by rfl, ?_⟩) (by assumption) ?_
                rotate_left
                · intro w hSw; (try dsimp only at hSw); go_simp; try with_reducible rfl
                try simp only [put_y]
                try simp only [Act.put]
                try simp only [put_z]
                refine wpAnyH_done (by kernel_rfl) ?_ _
                go_wp2_with fail
                go_meet
                case rel => exact ⟨wD.heap.size + 1, wD.heap.size, rfl, rfl, by rw [← hAs]; exact VBlk.new wA N, Blk.upd hA uB (fun f => f), by omega, by omega, by omega, u3.then_non uC⟩
            case rest =>
              obtain ⟨gv, gi, rfl, rfl, hgv, hgi, hne, hv1, hi1, u4⟩ := hcut
              have hFv : ¬ (fun k => k < w.heap.size) gv := by show ¬ gv < w.heap.size; omega
              have hFi : ¬ (fun k => k < w.heap.size) gi := by show ¬ gi < w.heap.size; omega
              obtain ⟨c0, c1, c2, c3, c4, c5, c6, c7, c8, c9, c10, c11, c12, c13⟩ := HC.out _ u4
              have CS := Lib.hid (fun op w => rlSorts_c op w)
              unfold implG at HR3
              rw [show r.vars.toNat + 1 = N by rw [Hn.out, ← HN.out]; rfl, show r.imms.toNat + 1 = M by rw [Hm.out, ← HM.out]; rfl] at HR3
              have HVN : Hid (r.vars.toNat = n) := by show _ = _; rw [Hn.out]; rfl
              rw [HVN.out] at HSL HSR
              rw [Hm.out] at HSL HSR HR3
              rw [Hn.out] at c12
              rw [Hm.out] at c13
              have CCL := Lib.hid (fun (w' : World) (gv' gi' : Nat) (own : Int) (u : Upd Non W w') h1 h2 h3 h4 h5 => rlCollect_c r.l w' _ a.la a.lc gv' N gi' M own 0 m n (List.replicate N 0) (List.replicate M 0) (PtK.upd u (fun _ _ _ f => f) _ _ _ HK.out.l) h1 h2 h3 h4 h5 HSL.out (by rw [List.length_replicate, HN.out]) (by rw [List.length_replicate, HM.out]) (by omega) (by omega))
              rw [List.length_replicate, List.length_replicate] at CCL
              obtain ⟨own, Hown⟩ := nm (rsF r.l.op).2
              rw [Hown.out] at HR3
              obtain ⟨V1, HV1⟩ := nm (colV (occ r.l own) (List.replicate N 0))
              obtain ⟨I1, HI1⟩ := nm (colI (occI r.l) (List.replicate M 0))
              rw [HV1.out, HI1.out] at HR3
              have HVL1 : Hid (V1.length = n + 1 ∧ V1.length = N) := by
                show _ ∧ _
                rw [← HV1.out, colV_len, List.length_replicate, HN.out]
                exact ⟨rfl, rfl⟩
              have HIL1 : Hid (I1.length = m + 1 ∧ I1.length = M) := by
                show _ ∧ _
                rw [← HI1.out, colI_len, List.length_replicate, HM.out]
                exact ⟨rfl, rfl⟩
              have C1 := Lib.hid (CS.out r.l.op wc)
              rw [Hown.out] at C1
              go_wp2_with fail
              refine C1.out.mono ?_
              rintro e w5 ⟨rfl, u5⟩
              obtain ⟨x0, Hx0⟩ := nm ((rsF r.l.op).1.getD 0 0)
              obtain ⟨x1, Hx1⟩ := nm ((rsF r.l.op).1.getD 1 0)
              obtain ⟨x2, Hx2⟩ := nm ((rsF r.l.op).1.getD 2 0)
              rw [Hx0.out, Hx1.out, Hx2.out]
              obtain ⟨W6, HW6⟩ := nm (w5.alloc (.cells #[.int .i64 x0, .int .i64 x1, .int .i64 x2] 92))
              have e6 := HW6.out
              have u6 : Upd Non w5 W6 := by rw [← e6]; exact Upd.refl.alloc _
              have u56 := u5.then_non u6
              have u7 := u4.then_non u56
              have hs7 := u4.size
              obtain ⟨c0, c1, c2, c3, c4, c5, c6, c7, c8, c9, c10, c11, c12, c13⟩ := HC.out _ u7
              have C2 := Lib.hid (CCL.out W6 gv gi own u7 hFv hFi hne (Blk.upd hgv u56 (fun f => f)) (Blk.upd hgi u56 (fun f => f)))
              rw [HV1.out, HI1.out] at C2
              unfold pv at C2
              rw [Hn.out] at c12
              rw [Hm.out] at c13
              clear C1 CCL hgv hgi
              go_wp2_with fail
              refine C2.out.mono ?_
              rintro e w8 ⟨rfl, hgv, hgi, u8⟩
              have HU8 : Upd Non W w8 := u7.trans u8 (fun i hi h => by omega)
              have u89 := u8
              obtain ⟨c0, c1, c2, c3, c4, c5, c6, c7, c8, c9, c10, c11, c12, c13⟩ := HC.out _ HU8
              rw [Hn.out] at c12
              rw [Hm.out] at c13
              have HB1 : Hid (((V1.drop 1).all fun x => decide (x ≠ 0)) = true ↔ ∀ i : Nat, 1 ≤ i → i ≤ n → V1.getD i 0 ≠ 0) := by
                show _ ↔ _
                rw [all_drop (d := 0) HVL1.out.1]
                simp only [decide_eq_true_eq]
              have HB2 : Hid (((I1.drop 1).all fun x => decide (x ≠ 0)) = true ↔ ∀ i : Nat, 1 ≤ i → i ≤ m → I1.getD i 0 ≠ 0) := by
                show _ ↔ _
                rw [all_drop (d := 0) HIL1.out.1]
                simp only [decide_eq_true_eq]
              obtain ⟨b1, Hb1⟩ := nm ((V1.drop 1).all fun x => decide (x ≠ 0))
              obtain ⟨b2, Hb2⟩ := nm ((I1.drop 1).all fun x => decide (x ≠ 0))
              rw [Hb1.out] at HB1 HR3
              rw [Hb2.out] at HB2 HR3
              have hNn : N = n + 1 := HN.out.symm
              have hMm : M = m + 1 := HM.out.symm
              have HNn := Lib.hid hNn
              have HMm := Lib.hid hMm
              have HU := hU.then_non HU8
              clear C2 hNn hMm mkN mkM u8 u5 u6 u56
              go_wp2_with fail
              go_loopg [7] n (fun g i wr => ∃ k : Nat, Hid (g = n + 1 - k) ∧ 1 ≤ k ∧ k ≤ n + 1 ∧ i = .int .i64 k ∧ Hid (∀ j : Nat, 1 ≤ j → j < k → V1.getD j 0 ≠ 0) ∧ w8 = wr)
              case atStart => exact ⟨1, by show _ = _; omega, by omega, by omega, rfl, fun j h1 h2 => by omega, rfl⟩
              case round =>
                obtain ⟨k, Hg, hk1, hk2, rfl, HA, rfl⟩ := hrel
                by_cases hlt : k ≤ n
                · have t3 : decide (k ≤ n) = true := decide_eq_true (by omega)
                  have hkN : (k : Int) < (N : Int) := by have := HNn.out; omega
                  have hk0 : (0 : Int) ≤ (k : Int) := by omega
                  have x1 := VBlk.cell hgv (i := k) (by rw [HVL1.out.1]; omega)
                  obtain ⟨z, Hz⟩ := nm (V1.getD k 0)
                  rw [Hz.out] at x1
                  by_cases h0 : z = 0
                  · subst h0
                    have hb : b1 = false := by
                      rw [Bool.eq_false_iff]
                      intro q
                      exact HB1.out.1 q k hk1 hlt Hz.out
                    have HF : Hid (R = false) := by show _ = _; rw [HR3.out, hb]; rfl
                    clear hb
                    go_wp2_with fail
                    go_ret
                    exact ⟨by rw [HF.out]; rfl, HU⟩
                  · have t4 : (z == 0) = false := by simpa using h0
                    have HA2 : Hid (∀ j : Nat, 1 ≤ j → j < k + 1 → V1.getD j 0 ≠ 0) := by
                      intro j j1 j2
                      by_cases e : j = k
                      · rw [e, Hz.out]; exact h0
                      · exact HA.out j j1 (by omega)
                    clear h0
                    go_wp2_with fail
                    go_roundg (n + 1 - (k + 1))
                    case measure => rw [Hg.out]; omega
                    case rel => exact ⟨k + 1, rfl, by omega, by omega, by go_num, HA2, rfl⟩
                · have t3 : decide (k ≤ n) = false := decide_eq_false (by omega)
                  have hb1 : b1 = true := HB1.out.2 (fun i i1 i2 => HA.out i i1 (by omega))
                  subst hb1
                  have HR4 : Hid (R = (b2 && (decide (r.r.v ≠ 0) || decide ((rsF r.r.op).2 = own)) && ((colV (occ r.r own) V1).drop 1).all (fun x => decide (x ≠ 3)) && r.conds.all fun c => condF c (colV (occ r.r own) V1) (m : Int))) := by show _ = _; rw [HR3.out]; simp
                  clear HA Hg hk1 hk2 hlt HR3
                  go_wp2_with fail
                  go_loopg [8] m (fun g i wr => ∃ k : Nat, Hid (g = m + 1 - k) ∧ 1 ≤ k ∧ k ≤ m + 1 ∧ i = .int .i64 k ∧ Hid (∀ j : Nat, 1 ≤ j → j < k → I1.getD j 0 ≠ 0) ∧ w8 = wr)
                  case atStart => exact ⟨1, by show _ = _; omega, by omega, by omega, rfl, fun j h1 h2 => by omega, rfl⟩
                  case round =>
                    obtain ⟨k, Hg, hk1, hk2, rfl, HA, rfl⟩ := hrel
                    by_cases hlt : k ≤ m
                    · have t3 : decide (k ≤ m) = true := decide_eq_true (by omega)
                      have hkN : (k : Int) < (M : Int) := by have := HMm.out; omega
                      have hk0 : (0 : Int) ≤ (k : Int) := by omega
                      have x1 := VBlk.cell hgi (i := k) (by rw [HIL1.out.1]; omega)
                      obtain ⟨z, Hz⟩ := nm (I1.getD k 0)
                      rw [Hz.out] at x1
                      by_cases h0 : z = 0
                      · subst h0
                        have hb : b2 = false := by
                          rw [Bool.eq_false_iff]
                          intro q
                          exact HB2.out.1 q k hk1 hlt Hz.out
                        have HF : Hid (R = false) := by show _ = _; rw [HR4.out, hb]; rfl
                        clear hb
                        go_wp2_with fail
                        go_ret
                        exact ⟨by rw [HF.out]; rfl, HU⟩
                      · have t4 : (z == 0) = false := by simpa using h0
                        have HA2 : Hid (∀ j : Nat, 1 ≤ j → j < k + 1 → I1.getD j 0 ≠ 0) := by
                          intro j j1 j2
                          by_cases e : j = k
                          · rw [e, Hz.out]; exact h0
                          · exact HA.out j j1 (by omega)
                        clear h0
                        go_wp2_with fail
                        go_roundg (m + 1 - (k + 1))
                        case measure => rw [Hg.out]; omega
                        case rel => exact ⟨k + 1, rfl, by omega, by omega, by go_num, HA2, rfl⟩
                    · have t3 : decide (k ≤ m) = false := decide_eq_false (by omega)
                      have hb2 : b2 = true := HB2.out.2 (fun i i1 i2 => HA.out i i1 (by omega))
                      subst hb2
                      have HR5 : Hid (R = ((decide (r.r.v ≠ 0) || decide ((rsF r.r.op).2 = own)) && ((colV (occ r.r own) V1).drop 1).all (fun x => decide (x ≠ 3)) && r.conds.all fun c => condF c (colV (occ r.r own) V1) (m : Int))) := by show _ = _; rw [HR4.out]; simp
                      clear HA Hg hk1 hk2 hlt HR4
                      have C1 := Lib.hid (CS.out r.r.op w8)
                      obtain ⟨sR, HsR⟩ := nm (rsF r.r.op).2
                      rw [HsR.out] at C1 HR5
                      go_wp2_with fail
                      refine C1.out.mono ?_
                      rintro e w9 ⟨rfl, u9⟩
                      obtain ⟨y0, Hy0⟩ := nm ((rsF r.r.op).1.getD 0 0)
                      obtain ⟨y1, Hy1⟩ := nm ((rsF r.r.op).1.getD 1 0)
                      obtain ⟨y2, Hy2⟩ := nm ((rsF r.r.op).1.getD 2 0)
                      rw [Hy0.out, Hy1.out, Hy2.out]
                      obtain ⟨WA, HWA⟩ := nm (w9.alloc (.cells #[.int .i64 y0, .int .i64 y1, .int .i64 y2] 92))
                      have eA := HWA.out
                      have uA : Upd Non w9 WA := by rw [← eA]; exact Upd.refl.alloc _
                      have u9A := u9.then_non uA
                      have HUA := HU8.then_non u9A
                      have hgvA : VBlk WA gv V1 := Blk.upd hgv u9A (fun f => f)
                      have hgiA : VBlk WA gi I1 := Blk.upd hgi u9A (fun f => f)
                      obtain ⟨c0, c1, c2, c3, c4, c5, c6, c7, c8, c9, c10, c11, c12, c13⟩ := HC.out _ HUA
                      rw [Hn.out] at c12
                      rw [Hm.out] at c13
                      have HU := hU.then_non HUA
                      have C2 := Lib.hid (rlCollect_c r.r WA _ a.ra a.rc gv N gi M own 0 m n V1 I1 (PtK.upd HUA (fun _ _ _ f => f) _ _ _ HK.out.r) hFv hFi hne hgvA hgiA HSR.out HVL1.out.1 HIL1.out.1 (by omega) (by omega))
                      rw [HVL1.out.2, HIL1.out.2] at C2
                      have HVL2 : Hid ((colV (occ r.r own) V1).length = n + 1 ∧ (colV (occ r.r own) V1).length = N) := by
                        show _ ∧ _
                        rw [colV_len]; exact HVL1.out
                      obtain ⟨V2, HV2⟩ := nm (colV (occ r.r own) V1)
                      rw [HV2.out] at C2 HR5 HVL2
                      unfold pv at C2
                      clear C1 hgv hgi hgvA hgiA c0 c1 c2 c3 c4 c5
                      by_cases hv : r.r.v = 0
                      · have t5 : (r.r.v == 0) = true := by simp [hv]
                        by_cases hs : sR = own
                        · have t6 : (sR != own) = false := by simp [hs]
                          have HR6 : Hid (R = (((V2.drop 1).all fun x => decide (x ≠ 3)) && r.conds.all fun c => condF c V2 (m : Int))) := by show _ = _; rw [HR5.out, decide_eq_true hs]; simp
                          clear hv hs HR5
                          go_wp2_with fail
                          refine C2.out.mono ?_
                          rintro e w10 ⟨rfl, hgv, hgi, u10⟩
                          have hsA := HU8.size
                          have HUB : Upd Non W w10 := HUA.trans u10 (fun i hi h => by omega)
                          have HU := hU.then_non HUB
                          obtain ⟨c0, c1, c2, c3, c4, c5, c6, c7, c8, c9, c10, c11, c12, c13⟩ := HC.out _ HUB
                          rw [Hn.out] at c12
                          rw [Hm.out] at c13
                          have HB4 : Hid (((V2.drop 1).all fun x => decide (x ≠ 3)) = true ↔ ∀ i : Nat, 1 ≤ i → i ≤ n → V2.getD i 0 ≠ 3) := by
                            show _ ↔ _
                            rw [all_drop (d := 0) HVL2.out.1]
                            simp only [decide_eq_true_eq]
                          obtain ⟨b4, Hb4⟩ := nm ((V2.drop 1).all fun x => decide (x ≠ 3))
                          rw [Hb4.out] at HB4 HR6
                          clear C2 hgi u10 HUA
                          go_wp2_with fail
                          go_loopg [11] n (fun g i wr => ∃ k : Nat, Hid (g = n + 1 - k) ∧ 1 ≤ k ∧ k ≤ n + 1 ∧ i = .int .i64 k ∧ Hid (∀ j : Nat, 1 ≤ j → j < k → V2.getD j 0 ≠ 3) ∧ w10 = wr)
                          case atStart => exact ⟨1, by show _ = _; omega, by omega, by omega, rfl, fun j h1 h2 => by omega, rfl⟩
                          case round =>
                            obtain ⟨k, Hg, hk1, hk2, rfl, HA, rfl⟩ := hrel
                            by_cases hlt : k ≤ n
                            · have t3 : decide (k ≤ n) = true := decide_eq_true (by omega)
                              have hkN : (k : Int) < (N : Int) := by have := HNn.out; omega
                              have hk0 : (0 : Int) ≤ (k : Int) := by omega
                              have x1 := VBlk.cell hgv (i := k) (by rw [HVL2.out.1]; omega)
                              obtain ⟨z, Hz⟩ := nm (V2.getD k 0)
                              rw [Hz.out] at x1
                              by_cases h0 : z = 3
                              · subst h0
                                have hb : b4 = false := by
                                  rw [Bool.eq_false_iff]
                                  intro q
                                  exact HB4.out.1 q k hk1 hlt Hz.out
                                have HF : Hid (R = false) := by show _ = _; rw [HR6.out, hb]; rfl
                                clear hb
                                go_wp2_with fail
                                go_ret
                                exact ⟨by rw [HF.out]; rfl, HU⟩
                              · have t4 : (z == 3) = false := by simpa using h0
                                have HA2 : Hid (∀ j : Nat, 1 ≤ j → j < k + 1 → V2.getD j 0 ≠ 3) := by
                                  intro j j1 j2
                                  by_cases e : j = k
                                  · rw [e, Hz.out]; exact h0
                                  · exact HA.out j j1 (by omega)
                                clear h0
                                go_wp2_with fail
                                go_roundg (n + 1 - (k + 1))
                                case measure => rw [Hg.out]; omega
                                case rel => exact ⟨k + 1, rfl, by omega, by omega, by go_num, HA2, rfl⟩
                            · have t3 : decide (k ≤ n) = false := decide_eq_false (by omega)
                              have hb4 : b4 = true := HB4.out.2 (fun i i1 i2 => HA.out i i1 (by omega))
                              subst hb4
                              have HR7 : Hid (R = r.conds.all fun c => condF c V2 (m : Int)) := by show _ = _; rw [HR6.out]; simp
                              have HI2 := Lib.hid hgv.ints
                              obtain ⟨cn, Hcn⟩ := nm r.conds.length
                              have hcn := H6.out
                              rw [Hcn.out] at c11 hcn
                              clear HA Hg hk1 hk2 hlt HR6
                              go_wp2_with fail
                              go_loopg [13, 129] cn (fun g _ i wr => ∃ q : Nat, Hid (g = cn - q) ∧ q ≤ cn ∧ i = .int .i64 q ∧ Hid (∀ j (h : j < r.conds.length), j < q → condF r.conds[j] V2 (m : Int) = true) ∧ Upd Non w10 wr)
                              case atStart => exact ⟨0, rfl, by omega, rfl, fun j h1 h2 => by omega, Upd.refl⟩
                              case round =>
                                obtain ⟨q, Hg, hq, rfl, HA, hu⟩ := hrel
                                have HUC := HUB.then_non hu
                                by_cases hlt : q < cn
                                · have hql : q < r.conds.length := by rw [Hcn.out]; exact hlt
                                  have hcv := HK.out.c.upd HUC (fun _ _ _ f => f)
                                  obtain ⟨cb, co, ecA, hF, hcb, k0, k1, k2, k3⟩ := hcv.at_ hql
                                  have hcond : Hid (∀ b, condF r.conds[q] V2 (m : Int) = b → (b = false → R = false) ∧ (b = true → ∀ j (h : j < r.conds.length), j < q + 1 → condF r.conds[j] V2 (m : Int) = true)) := by
                                    intro b hb
                                    refine ⟨fun h => ?_, fun h j hj1 hj2 => ?_⟩
                                    · rw [HR7.out, Bool.eq_false_iff]
                                      intro h2
                                      rw [List.all_eq_true] at h2
                                      have := h2 _ (List.getElem_mem hql)
                                      rw [hb, h] at this; cases this
                                    · by_cases e : j = q
                                      · subst e; rw [hb, h]
                                      · exact HA.out j hj1 (by omega)
                                  generalize r.conds[q] = x at *
                                  obtain ⟨d0, d1, d2, d3, d4, d5, d6, d7, d8, d9, d10, d11, d12, d13⟩ := HC.out _ HUC
                                  rw [ecA, Hcn.out] at d11
                                  rw [Hm.out] at d13
                                  obtain ⟨WX, HWX⟩ := nm (wr.alloc (.cells #[.int .i64 x.kind, .int .i64 x.a, .int .i64 x.b, .int .i64 x.n] 66))
                                  have eX := HWX.out
                                  have uX : Upd Non wr WX := by rw [← eX]; exact Upd.refl.alloc _
                                  have bX : Blk WX wr.heap.size 66 #[.int .i64 x.kind, .int .i64 x.a, .int .i64 x.b, .int .i64 x.n] := by rw [← eX]; exact Blk.new _ _ _
                                  have f0 := bX.cell 0
                                  have f1 := bX.cell 1
                                  have f2 := bX.cell 2
                                  have f3 := bX.cell 3
                                  have f13 := cell_upd d13 uX (fun f => f)
                                  have CC := Lib.hid (rlValidCond_c x V2 (m : Int) (some ⟨gv, 0, none⟩) N _ WX ((HI2.out.upd hu (fun _ _ _ f => f)).upd uX (fun _ _ _ f => f)))
                                  rw [HVL2.out.2] at CC
                                  obtain ⟨cr, Hcr⟩ := nm (condF x V2 (m : Int))
                                  rw [Hcr.out] at CC hcond
                                  have HCD := Lib.hid (hcond.out cr rfl)
                                  simp only [ecA]
                                  clear hcv hcond bX
                                  go_wp2_with fail
                                  refine CC.out.mono ?_
                                  rintro e w11 ⟨rfl, u11⟩
                                  have HU11 := (hu.then_non uX).then_non u11
                                  have HU := HU.then_non HU11
                                  cases cr with
                                  | false =>
                                    have HF : Hid (R = false) := HCD.out.1 rfl
                                    go_wp2_with fail
                                    go_ret
                                    exact ⟨by rw [HF.out]; rfl, HU⟩
                                  | true =>
                                    have HA2 := Lib.hid (HCD.out.2 rfl)
                                    go_wp2_with fail
                                    simp only [← ecA]
                                    go_roundg (cn - (q + 1))
                                    case measure => rw [Hg.out]; omega
                                    case rel => exact ⟨q + 1, rfl, by omega, by go_num, HA2.out, HU11⟩
                                · obtain rfl : cn = q := by omega
                                  have HF : Hid (R = true) := by
                                    show _ = _
                                    rw [HR7.out, List.all_eq_true]
                                    intro c hc
                                    obtain ⟨j, hj, rfl⟩ := List.mem_iff_getElem.1 hc
                                    exact HA.out j hj (by rw [← Hcn.out]; exact hj)
                                  have HU := HU.then_non hu
                                  go_wp2_with fail
                                  go_ret
                                  exact ⟨by rw [HF.out]; rfl, HU⟩
                        · have t6 : (sR != own) = true := by simp [hs]
                          have HF : Hid (R = false) := by show _ = _; rw [HR5.out, decide_eq_false hs, decide_eq_false (fun q => q hv)]; rfl
                          clear hv hs
                          go_wp2_with fail
                          go_ret
                          exact ⟨by rw [HF.out]; rfl, HU⟩
                      · have t5 : (r.r.v == 0) = false := by simp [hv]
                        have HR6 : Hid (R = (((V2.drop 1).all fun x => decide (x ≠ 3)) && r.conds.all fun c => condF c V2 (m : Int))) := by show _ = _; rw [HR5.out, decide_eq_true (show r.r.v ≠ 0 from hv)]; simp
                        clear hv HR5
                        go_wp2_with fail
                        refine C2.out.mono ?_
                        rintro e w10 ⟨rfl, hgv, hgi, u10⟩
                        have hsA := HU8.size
                        have HUB : Upd Non W w10 := HUA.trans u10 (fun i hi h => by omega)
                        have HU := hU.then_non HUB
                        obtain ⟨c0, c1, c2, c3, c4, c5, c6, c7, c8, c9, c10, c11, c12, c13⟩ := HC.out _ HUB
                        rw [Hn.out] at c12
                        rw [Hm.out] at c13
                        have HB4 : Hid (((V2.drop 1).all fun x => decide (x ≠ 3)) = true ↔ ∀ i : Nat, 1 ≤ i → i ≤ n → V2.getD i 0 ≠ 3) := by
                          show _ ↔ _
                          rw [all_drop (d := 0) HVL2.out.1]
                          simp only [decide_eq_true_eq]
                        obtain ⟨b4, Hb4⟩ := nm ((V2.drop 1).all fun x => decide (x ≠ 3))
                        rw [Hb4.out] at HB4 HR6
                        clear C2 hgi u10 HUA
                        go_wp2_with fail
                        go_loopg [11] n (fun g i wr => ∃ k : Nat, Hid (g = n + 1 - k) ∧ 1 ≤ k ∧ k ≤ n + 1 ∧ i = .int .i64 k ∧ Hid (∀ j : Nat, 1 ≤ j → j < k → V2.getD j 0 ≠ 3) ∧ w10 = wr)
                        case atStart => exact ⟨1, by show _ = _; omega, by omega, by omega, rfl, fun j h1 h2 => by omega, rfl⟩
                        case round =>
                          obtain ⟨k, Hg, hk1, hk2, rfl, HA, rfl⟩ := hrel
                          by_cases hlt : k ≤ n
                          · have t3 : decide (k ≤ n) = true := decide_eq_true (by omega)
                            have hkN : (k : Int) < (N : Int) := by have := HNn.out; omega
                            have hk0 : (0 : Int) ≤ (k : Int) := by omega
                            have x1 := VBlk.cell hgv (i := k) (by rw [HVL2.out.1]; omega)
                            obtain ⟨z, Hz⟩ := nm (V2.getD k 0)
                            rw [Hz.out] at x1
                            by_cases h0 : z = 3
                            · subst h0
                              have hb : b4 = false := by
                                rw [Bool.eq_false_iff]
                                intro q
                                exact HB4.out.1 q k hk1 hlt Hz.out
                              have HF : Hid (R = false) := by show _ = _; rw [HR6.out, hb]; rfl
                              clear hb
                              go_wp2_with fail
                              go_ret
                              exact ⟨by rw [HF.out]; rfl, HU⟩
                            · have t4 : (z == 3) = false := by simpa using h0
                              have HA2 : Hid (∀ j : Nat, 1 ≤ j → j < k + 1 → V2.getD j 0 ≠ 3) := by
                                intro j j1 j2
                                by_cases e : j = k
                                · rw [e, Hz.out]; exact h0
                                · exact HA.out j j1 (by omega)
                              clear h0
                              go_wp2_with fail
                              go_roundg (n + 1 - (k + 1))
                              case measure => rw [Hg.out]; omega
                              case rel => exact ⟨k + 1, rfl, by omega, by omega, by go_num, HA2, rfl⟩
                          · have t3 : decide (k ≤ n) = false := decide_eq_false (by omega)
                            have hb4 : b4 = true := HB4.out.2 (fun i i1 i2 => HA.out i i1 (by omega))
                            subst hb4
                            have HR7 : Hid (R = r.conds.all fun c => condF c V2 (m : Int)) := by show _ = _; rw [HR6.out]; simp
                            have HI2 := Lib.hid hgv.ints
                            obtain ⟨cn, Hcn⟩ := nm r.conds.length
                            have hcn := H6.out
                            rw [Hcn.out] at c11 hcn
                            clear HA Hg hk1 hk2 hlt HR6
                            go_wp2_with fail
                            go_loopg [13, 129] cn (fun g _ i wr => ∃ q : Nat, Hid (g = cn - q) ∧ q ≤ cn ∧ i = .int .i64 q ∧ Hid (∀ j (h : j < r.conds.length), j < q → condF r.conds[j] V2 (m : Int) = true) ∧ Upd Non w10 wr)
                            case atStart => exact ⟨0, rfl, by omega, rfl, fun j h1 h2 => by omega, Upd.refl⟩
                            case round =>
                              obtain ⟨q, Hg, hq, rfl, HA, hu⟩ := hrel
                              have HUC := HUB.then_non hu
                              by_cases hlt : q < cn
                              · have hql : q < r.conds.length := by rw [Hcn.out]; exact hlt
                                have hcv := HK.out.c.upd HUC (fun _ _ _ f => f)
                                obtain ⟨cb, co, ecA, hF, hcb, k0, k1, k2, k3⟩ := hcv.at_ hql
                                have hcond : Hid (∀ b, condF r.conds[q] V2 (m : Int) = b → (b = false → R = false) ∧ (b = true → ∀ j (h : j < r.conds.length), j < q + 1 → condF r.conds[j] V2 (m : Int) = true)) := by
                                  intro b hb
                                  refine ⟨fun h => ?_, fun h j hj1 hj2 => ?_⟩
                                  · rw [HR7.out, Bool.eq_false_iff]
                                    intro h2
                                    rw [List.all_eq_true] at h2
                                    have := h2 _ (List.getElem_mem hql)
                                    rw [hb, h] at this; cases this
                                  · by_cases e : j = q
                                    · subst e; rw [hb, h]
                                    · exact HA.out j hj1 (by omega)
                                generalize r.conds[q] = x at *
                                obtain ⟨d0, d1, d2, d3, d4, d5, d6, d7, d8, d9, d10, d11, d12, d13⟩ := HC.out _ HUC
                                rw [ecA, Hcn.out] at d11
                                rw [Hm.out] at d13
                                obtain ⟨WX, HWX⟩ := nm (wr.alloc (.cells #[.int .i64 x.kind, .int .i64 x.a, .int .i64 x.b, .int .i64 x.n] 66))
                                have eX := HWX.out
                                have uX : Upd Non wr WX := by rw [← eX]; exact Upd.refl.alloc _
                                have bX : Blk WX wr.heap.size 66 #[.int .i64 x.kind, .int .i64 x.a, .int .i64 x.b, .int .i64 x.n] := by rw [← eX]; exact Blk.new _ _ _
                                have f0 := bX.cell 0
                                have f1 := bX.cell 1
                                have f2 := bX.cell 2
                                have f3 := bX.cell 3
                                have f13 := cell_upd d13 uX (fun f => f)
                                have CC := Lib.hid (rlValidCond_c x V2 (m : Int) (some ⟨gv, 0, none⟩) N _ WX ((HI2.out.upd hu (fun _ _ _ f => f)).upd uX (fun _ _ _ f => f)))
                                rw [HVL2.out.2] at CC
                                obtain ⟨cr, Hcr⟩ := nm (condF x V2 (m : Int))
                                rw [Hcr.out] at CC hcond
                                have HCD := Lib.hid (hcond.out cr rfl)
                                simp only [ecA]
                                clear hcv hcond bX
                                go_wp2_with fail
                                refine CC.out.mono ?_
                                rintro e w11 ⟨rfl, u11⟩
                                have HU11 := (hu.then_non uX).then_non u11
                                have HU := HU.then_non HU11
                                cases cr with
                                | false =>
                                  have HF : Hid (R = false) := HCD.out.1 rfl
                                  go_wp2_with fail
                                  go_ret
                                  exact ⟨by rw [HF.out]; rfl, HU⟩
                                | true =>
                                  have HA2 := Lib.hid (HCD.out.2 rfl)
                                  go_wp2_with fail
                                  simp only [← ecA]
                                  go_roundg (cn - (q + 1))
                                  case measure => rw [Hg.out]; omega
                                  case rel => exact ⟨q + 1, rfl, by omega, by go_num, HA2.out, HU11⟩
                              · obtain rfl : cn = q := by omega
                                have HF : Hid (R = true) := by
                                  show _ = _
                                  rw [HR7.out, List.all_eq_true]
                                  intro c hc
                                  obtain ⟨j, hj, rfl⟩ := List.mem_iff_getElem.1 hc
                                  exact HA.out j hj (by rw [← Hcn.out]; exact hj)
                                have HU := HU.then_non hu
                                go_wp2_with fail
                                go_ret
                                exact ⟨by rw [HF.out]; rfl, HU⟩
          · have t2 : decide ((6 : Int) < (r.conds.length : Int)) = true := decide_eq_true (by omega)
            have HF : Hid (R = false) := by show _ = _; rw [HR2.out, decide_eq_false h6]; rfl
            clear h6
            go_wp2_with fail
            go_ret
            exact ⟨by rw [HF.out]; rfl, HU⟩
  · have t1 : (r.l.v != 0) = true := by simp [hv]
    have HF : Hid (R = false) := by show _ = _; rw [HR1.out, decide_eq_false hv]; rfl
    have HU := hU
    clear hv
    go_enter Try.func20, Try.ntmps20
    go_wp2_with fail
    go_ret
    exact ⟨by rw [HF.out]; rfl, HU⟩
end Go.Proofs.Ytblkgjdhaibhgaa
