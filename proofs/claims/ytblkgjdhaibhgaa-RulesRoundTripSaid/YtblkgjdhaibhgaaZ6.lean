/-
  Lemmas and walks that the claim rests on, part 6 (packed by a program).
-/
import Derived.Test.YtblkgjdhaibhgaaZ5
import Derived.Test.YtblkgjdhaibhgaaZ2
import Derived.Test.YtblkgjdhaibhgaaZ4
import Derived.Test.YtblkgjdhaibhgaaZ3
namespace Go.Proofs.Ytblkgjdhaibhgaa
open Go.RowKit
theorem rl_cells {w : World} {b : Nat} {t : TypeId} {r : Rl} {a : RlA} (h : Blk w b t (rlCells r a)) :
  w.cell? ⟨b, 0, none⟩ = some (.string r.name) ∧ w.cell? ⟨b, 1, none⟩ = some (.int .i64 r.l.v) ∧ w.cell? ⟨b, 2, none⟩ = some (.int .i64 r.l.op) ∧ w.cell? ⟨b, 3, none⟩ = some (.int .i64 r.l.imm) ∧ w.cell? ⟨b, 4, none⟩ = some (.int .i64 r.l.iv) ∧ w.cell? ⟨b, 5, none⟩ = some (.slice a.la r.l.kids.length a.lc) ∧
  w.cell? ⟨b, 6, none⟩ = some (.int .i64 r.r.v) ∧ w.cell? ⟨b, 7, none⟩ = some (.int .i64 r.r.op) ∧ w.cell? ⟨b, 8, none⟩ = some (.int .i64 r.r.imm) ∧ w.cell? ⟨b, 9, none⟩ = some (.int .i64 r.r.iv) ∧ w.cell? ⟨b, 10, none⟩ = some (.slice a.ra r.r.kids.length a.rc) ∧
  w.cell? ⟨b, 11, none⟩ = some (.slice a.ca r.conds.length a.cc) ∧ w.cell? ⟨b, 12, none⟩ = some (.int .i64 r.vars) ∧ w.cell? ⟨b, 13, none⟩ = some (.int .i64 r.imms) := by
 refine ⟨?_, ?_, ?_, ?_, ?_, ?_, ?_, ?_, ?_, ?_, ?_, ?_, ?_, ?_⟩ <;> (rw [h.cell]; rfl)
theorem VBlk.ints {w : World} {g : Nat} {vs : List Int} (h : VBlk w g vs) : Ints w (fun _ => True) (some ⟨g, 0, none⟩) vs := by
 have := Sl.of_blk (F := fun _ => True) trivial h vs.length
 unfold Ints
 have e : (icells vs).toArray.toList.take vs.length = icells vs := by
  rw [List.take_of_length_le (by simp [icells])]
 rw [e] at this
 exact this
structure RlSz (x : Rl) : Prop where
 l : x.l.size ≤ 1000000000000
 r : x.r.size ≤ 1000000000000
 c : x.conds.length ≤ 1000000000000
 n : x.name.size ≤ 1000000000000000
theorem VBlk.new (w : World) (n : Nat) : VBlk (w.alloc (.cells (Array.replicate n (.int .i64 0)) 3)) w.heap.size (List.replicate n 0) := by
 unfold VBlk
 rw [show (icells (List.replicate n 0)).toArray = Array.replicate n (.int .i64 0) by simp [icells]]
 exact Blk.new _ _ _
set_option maxRecDepth 100000 in
set_option maxHeartbeats 4000000 in
theorem rlValid_c (r : Rl) (a : RlA) (F : Nat → Prop) (w : World) (hk : RlK w F r a) (hz : RlSz r) :
  Calls Try.prog 20 #[rlv r a] w fun e w' => e = .returned (.bool (implF r)) ∧ Upd Non w w' := by
 obtain ⟨W, HW⟩ := nm (w.alloc (.cells (rlCells r a) 33))
 have hU : Upd Non w W := by rw [← HW.out]; exact Upd.refl.alloc _
 have hb : Blk W w.heap.size 33 (rlCells r a) := by rw [← HW.out]; exact Blk.new _ _ _
 have hsz : W.heap.size = w.heap.size + 1 := by rw [← HW.out]; simp
 have e0 := HW.out
 have hK := (hk.mono (G := fun k => k < w.heap.size) (fun _ h _ => h)).upd hU (fun _ _ _ f => f)
 have HC := Lib.hid (fun (w' : World) (u : Upd Non W w') => rl_cells (hb.upd u (fun f => f)))
 obtain ⟨c0, c1, c2, c3, c4, c5, c6, c7, c8, c9, c10, c11, c12, c13⟩ := HC.out W Upd.refl
 have CL := Lib.hid (ptValid_c r.l W _ a.la a.lc r.vars r.imms hK.l hz.l)
 have CR := Lib.hid (fun (w' : World) (u : Upd Non W w') => ptValid_c r.r w' _ a.ra a.rc r.vars r.imms (PtK.upd u (fun _ _ _ f => f) _ _ _ hK.r) hz.r)
 have CN := Lib.hid (fun w' => rlValidName_c r.name w' hz.n)
 have HZ := Lib.hid hz
 have HK := Lib.hid hK
 unfold pv at CL CR
 unfold rlv
 unfold rlCells at e0 ⊢
 obtain ⟨R, HR⟩ := nm (implF r)
 rw [HR.out]
 have HR1 : Hid (R = (decide (r.l.v = 0) && validF r.l r.vars r.imms && validF r.r r.vars r.imms && nameF r.name && decide (r.conds.length ≤ 6) && implG r)) := HR.out.symm
 have HVL : Hid (∀ b, validF r.l r.vars r.imms = b → validF r.l r.vars r.imms = b) := fun _ h => h
 obtain ⟨vl, Hvl⟩ := nm (validF r.l r.vars r.imms)
 obtain ⟨vr, Hvr⟩ := nm (validF r.r r.vars r.imms)
 obtain ⟨vn, Hvn⟩ := nm (nameF r.name)
 rw [Hvl.out] at CL HR1
 rw [Hvr.out] at CR HR1
 rw [Hvn.out] at CN HR1
 clear hk hz hK HR HVL hb
 by_cases hv : r.l.v = 0
 ·
  have t1 : (r.l.v != 0) = false := by simp [hv]
  have HR2 : Hid (R = (vl && vr && vn && decide (r.conds.length ≤ 6) && implG r)) := by show _ = _; rw [HR1.out, decide_eq_true hv]; simp
  have HLV := Lib.hid hv
  clear hv HR1
  go_enter Try.func20, Try.ntmps20
  go_wp2_with fail
  refine CL.out.mono ?_
  rintro e w1 ⟨rfl, u1⟩
  have HU := hU.then_non u1
  obtain ⟨c0, c1, c2, c3, c4, c5, c6, c7, c8, c9, c10, c11, c12, c13⟩ := HC.out _ u1
  cases vl with
  | false =>
   have HF : Hid (R = false) := HR2.out
   go_wp2_with fail
   go_ret
   exact ⟨by rw [HF.out]; rfl, HU⟩
  | true =>
   go_wp2_with fail
   refine (CR.out _ u1).mono ?_
   rintro e w2 ⟨rfl, u2'⟩
   have u2 := u1.then_non u2'
   have HU := hU.then_non u2
   obtain ⟨c0, c1, c2, c3, c4, c5, c6, c7, c8, c9, c10, c11, c12, c13⟩ := HC.out _ u2
   cases vr with
   | false =>
    have HF : Hid (R = false) := HR2.out
    go_wp2_with fail
    go_ret
    exact ⟨by rw [HF.out]; rfl, HU⟩
   | true =>
    go_wp2_with fail
    refine (CN.out _).mono ?_
    rintro e w3 ⟨rfl, q3, rfl⟩
    have u3 : Upd Non W (w2.drewN q3) := u2.drewN _
    have HU := hU.then_non u3
    obtain ⟨w3, Hw3⟩ := nm (w2.drewN q3)
    rw [Hw3.out] at u3 HU ⊢
    obtain ⟨c0, c1, c2, c3, c4, c5, c6, c7, c8, c9, c10, c11, c12, c13⟩ := HC.out _ u3
    cases vn with
    | false =>
     have HF : Hid (R = false) := HR2.out
     go_wp2_with fail
     go_ret
     exact ⟨by rw [HF.out]; rfl, HU⟩
    | true =>
     by_cases h6 : r.conds.length ≤ 6
     ·
      have t2 : decide ((6 : Int) < (r.conds.length : Int)) = false := decide_eq_false (by omega)
      have HR3 : Hid (R = implG r) := by show _ = _; rw [HR2.out, decide_eq_true h6]; rfl
      have H6 := Lib.hid h6
      clear h6 HR2 CL CR CN
      obtain ⟨hvl, hshl⟩ : (0 ≤ r.vars ∧ r.vars ≤ 6 ∧ 0 ≤ r.imms ∧ r.imms ≤ 6) ∧ shp r.l 0 r.imms r.vars.toNat = true := by
       have h := Hvl.out
       unfold validF at h
       simp only [Bool.and_eq_true, decide_eq_true_eq] at h
       obtain ⟨v1, a1, _⟩ := vPt_fst.1 h.2
       rw [List.length_replicate] at a1
       exact ⟨by omega, a1⟩
      have hshr : shp r.r 0 r.imms r.vars.toNat = true := by
       have h := Hvr.out
       unfold validF at h
       simp only [Bool.and_eq_true, decide_eq_true_eq] at h
       obtain ⟨v1, a1, _⟩ := vPt_fst.1 h.2
       rw [List.length_replicate] at a1
       exact a1
      have HSL := Lib.hid hshl
      have HSR := Lib.hid hshr
      obtain ⟨n, Hn⟩ : ∃ n : Nat, Hid (r.vars = (n : Int)) := Int.eq_ofNat_of_zero_le hvl.1
      obtain ⟨m, Hm⟩ : ∃ m : Nat, Hid (r.imms = (m : Int)) := Int.eq_ofNat_of_zero_le hvl.2.2.1
      have hn6 : n ≤ 6 := by have := Hn.out; omega
      have hm6 : m ≤ 6 := by have := Hm.out; omega
      obtain ⟨N, HN⟩ := nm (n + 1)
      obtain ⟨M, HM⟩ := nm (m + 1)
      have hN7 : N ≤ 7 := by rw [← HN.out]; omega
      have hM7 : M ≤ 7 := by rw [← HM.out]; omega
      have hwN : IntKind.i64.wrap ((n : Int) + 1) = (N : Int) := by rw [i64w_of (by unfold I64; omega), ← HN.out]; omega
      have hwM : IntKind.i64.wrap ((m : Int) + 1) = (M : Int) := by rw [i64w_of (by unfold I64; omega), ← HM.out]; omega
      have mkN := run_mk T_ints' zero_int_ rfl N (by omega) (by omega)
      have mkM := run_mk T_ints' zero_int_ rfl M (by omega) (by omega)
      rw [Hn.out] at c12
      rw [Hm.out] at c13
      clear hvl hshl hshr
      go_upto_region 3 with fail
      go_cut [3, 4] (fun v i wx => ∃ gv gi : Nat, v = .slice (some ⟨gv, 0, none⟩) N N ∧ i = .slice (some ⟨gi, 0, none⟩) M M ∧ VBlk wx gv (List.replicate N 0) ∧ VBlk wx gi (List.replicate M 0) ∧ gv ≠ gi ∧ W.heap.size ≤ gv ∧ W.heap.size ≤ gi ∧ Upd Non W wx)
      case first =>
       obtain ⟨wD, HwD⟩ := nm w3.drew
       have uD : Upd Non w3 wD := by rw [← HwD.out]; exact Upd.refl.drew
       have vD := u3.then_non uD
       have hsD := vD.size
       refine wp_region_held_drew (S := fun w' => w'.cell? ⟨w.heap.size, 12, none⟩ = some (.int .i64 n) ∧ w'.cell? ⟨w.heap.size, 13, none⟩ = some (.int .i64 m)) (by kernel_rfl) (by rw [HwD.out]; exact ⟨cell_upd c12 uD (fun f => f), cell_upd c13 uD (fun f => f)⟩) (fun hHeld => ?_)
       rw [HwD.out] at hHeld ⊢
       refine wpT 0 ?_
       try simp only [put_y]
       try simp only [Act.put]
       try simp only [put_z]
       refine wpT 1 ?_
       try simp only [put_y]
       try simp only [Act.put]
       try simp only [put_z]
       refine wpT 2 ?_
       try simp only [put_y]
       try simp only [Act.put]
       try simp only [put_z]
       refine wpT 4 ?_
       try simp only [put_y]
       try simp only [Act.put]
       try simp only [put_z]
       refine wpT 5 ?_
       try simp only [put_y]
       try simp only [Act.put]
       try simp only [put_z]
       refine wpT 6 ?_
       try simp only [put_y]
       try simp only [Act.put]
       try simp only [put_z]
       refine wpAnyH_ready (rs := [3, 7]) (by kernel_rfl) (by simp) ?_
       refine AllReadyH.cons rfl (fun K hK => ?_) (AllReadyH.cons rfl (fun K hK => ?_) AllReadyH.nil)
       ·
        go_simp
        have uA : Upd Non wD (wD.alloc (.cells (Array.replicate N (.int .i64 0)) 3)) := Upd.refl.alloc _
        refine hK.out _ _ ?_ (fun hHeld => ?_)
        ·
         exact ⟨cell_upd c12 (uD.then_non uA) (fun f => f), cell_upd c13 (uD.then_non uA) (fun f => f)⟩
        clear hK K
        try simp only [put_y]
        try simp only [Act.put]
        try simp only [put_z]
        have hA := VBlk.new wD N
        have hAs : (wD.alloc (.cells (Array.replicate N (.int .i64 0)) 3)).heap.size = wD.heap.size + 1 := by simp
        obtain ⟨wA, HwA⟩ := nm (wD.alloc (.cells (Array.replicate N (.int .i64 0)) 3))
        rw [HwA.out] at uA hA hAs hHeld ⊢
        refine wpT 8 ?_
        try simp only [put_y]
        try simp only [Act.put]
        try simp only [put_z]
        refine wpAnyH_ready (rs := [7]) (by kernel_rfl) (by simp) ?_
        refine AllReadyH.cons rfl (fun K hK => ?_) AllReadyH.nil
        go_simp
        have uB : Upd Non wA (wA.alloc (.cells (Array.replicate M (.int .i64 0)) 3)) := Upd.refl.alloc _
        have uC := (uD.then_non uA).then_non uB
        refine hK.out _ _ ?_ (fun hHeld => ?_)
        ·
         exact ⟨cell_upd c12 uC (fun f => f), cell_upd c13 uC (fun f => f)⟩
        clear hK K
        try simp only [put_y]
        try simp only [Act.put]
        try simp only [put_z]
        refine wpT 9 ?_
        try simp only [put_y]
        try simp only [Act.put]
        try simp only [put_z]
        refine wpAnyH_done (by kernel_rfl) ?_ _
        go_wp2_with fail
        go_meet
        case rel => exact ⟨wD.heap.size, wD.heap.size + 1, rfl, rfl, Blk.upd hA uB (fun f => f), by rw [← hAs]; exact VBlk.new wA M, by omega, by omega, by omega, u3.then_non uC⟩
       ·
        go_simp
        have uA : Upd Non wD (wD.alloc (.cells (Array.replicate M (.int .i64 0)) 3)) := Upd.refl.alloc _
        refine hK.out _ _ ?_ (fun hHeld => ?_)
        ·
         exact ⟨cell_upd c12 (uD.then_non uA) (fun f => f), cell_upd c13 (uD.then_non uA) (fun f => f)⟩
        clear hK K
        try simp only [put_y]
        try simp only [Act.put]
        try simp only [put_z]
        have hA := VBlk.new wD M
        have hAs : (wD.alloc (.cells (Array.replicate M (.int .i64 0)) 3)).heap.size = wD.heap.size + 1 := by simp
        obtain ⟨wA, HwA⟩ := nm (wD.alloc (.cells (Array.replicate M (.int .i64 0)) 3))
        rw [HwA.out] at uA hA hAs hHeld ⊢
        refine wpAnyH_ready (rs := [3]) (by kernel_rfl) (by simp) ?_
        refine AllReadyH.cons rfl (fun K hK => ?_) AllReadyH.nil
        go_simp
        have uB : Upd Non wA (wA.alloc (.cells (Array.replicate N (.int .i64 0)) 3)) := Upd.refl.alloc _
        have uC := (uD.then_non uA).then_non uB
        refine hK.out _ _ ?_ (fun hHeld => ?_)
        ·
         exact ⟨cell_upd c12 uC (fun f => f), cell_upd c13 uC (fun f => f)⟩
        clear hK K
        try simp only [put_y]
        try simp only [Act.put]
        try simp only [put_z]
        refine wpT 8 ?_
        try simp only [put_y]
        try simp only [Act.put]
        try simp only [put_z]
        refine wpT 9 ?_
        try simp only [put_y]
        try simp only [Act.put]
        try simp only [put_z]
        refine wpAnyH_done (by kernel_rfl) ?_ _
        go_wp2_with fail
        go_meet
        case rel => exact ⟨wD.heap.size + 1, wD.heap.size, rfl, rfl, by rw [← hAs]; exact VBlk.new wA N, Blk.upd hA uB (fun f => f), by omega, by omega, by omega, u3.then_non uC⟩
      case rest =>
       obtain ⟨gv, gi, rfl, rfl, hgv, hgi, hne, hv1, hi1, u4⟩ := hcut
       have hFv : ¬ (fun k => k < w.heap.size) gv := by show ¬ gv < w.heap.size; omega
       have hFi : ¬ (fun k => k < w.heap.size) gi := by show ¬ gi < w.heap.size; omega
       obtain ⟨c0, c1, c2, c3, c4, c5, c6, c7, c8, c9, c10, c11, c12, c13⟩ := HC.out _ u4
       have CS := Lib.hid (fun op w => rlSorts_c op w)
       unfold implG at HR3
       rw [show r.vars.toNat + 1 = N by rw [Hn.out, ← HN.out]; rfl, show r.imms.toNat + 1 = M by rw [Hm.out, ← HM.out]; rfl] at HR3
       have HVN : Hid (r.vars.toNat = n) := by show _ = _; rw [Hn.out]; rfl
       rw [HVN.out] at HSL HSR
       rw [Hm.out] at HSL HSR HR3
       rw [Hn.out] at c12
       rw [Hm.out] at c13
       have CCL := Lib.hid (fun (w' : World) (gv' gi' : Nat) (own : Int) (u : Upd Non W w') h1 h2 h3 h4 h5 => rlCollect_c r.l w' _ a.la a.lc gv' N gi' M own 0 m n (List.replicate N 0) (List.replicate M 0) (PtK.upd u (fun _ _ _ f => f) _ _ _ HK.out.l) h1 h2 h3 h4 h5 HSL.out (by rw [List.length_replicate, HN.out]) (by rw [List.length_replicate, HM.out]) (by omega) (by omega))
       rw [List.length_replicate, List.length_replicate] at CCL
       obtain ⟨own, Hown⟩ := nm (rsF r.l.op).2
       rw [Hown.out] at HR3
       obtain ⟨V1, HV1⟩ := nm (colV (occ r.l own) (List.replicate N 0))
       obtain ⟨I1, HI1⟩ := nm (colI (occI r.l) (List.replicate M 0))
       rw [HV1.out, HI1.out] at HR3
       have HVL1 : Hid (V1.length = n + 1 ∧ V1.length = N) := by
        show _ ∧ _
        rw [← HV1.out, colV_len, List.length_replicate, HN.out]
        exact ⟨rfl, rfl⟩
       have HIL1 : Hid (I1.length = m + 1 ∧ I1.length = M) := by
        show _ ∧ _
        rw [← HI1.out, colI_len, List.length_replicate, HM.out]
        exact ⟨rfl, rfl⟩
       have C1 := Lib.hid (CS.out r.l.op wc)
       rw [Hown.out] at C1
       go_wp2_with fail
       refine C1.out.mono ?_
       rintro e w5 ⟨rfl, u5⟩
       obtain ⟨x0, Hx0⟩ := nm ((rsF r.l.op).1.getD 0 0)
       obtain ⟨x1, Hx1⟩ := nm ((rsF r.l.op).1.getD 1 0)
       obtain ⟨x2, Hx2⟩ := nm ((rsF r.l.op).1.getD 2 0)
       rw [Hx0.out, Hx1.out, Hx2.out]
       obtain ⟨W6, HW6⟩ := nm (w5.alloc (.cells #[.int .i64 x0, .int .i64 x1, .int .i64 x2] 92))
       have e6 := HW6.out
       have u6 : Upd Non w5 W6 := by rw [← e6]; exact Upd.refl.alloc _
       have u56 := u5.then_non u6
       have u7 := u4.then_non u56
       have hs7 := u4.size
       obtain ⟨c0, c1, c2, c3, c4, c5, c6, c7, c8, c9, c10, c11, c12, c13⟩ := HC.out _ u7
       have C2 := Lib.hid (CCL.out W6 gv gi own u7 hFv hFi hne (Blk.upd hgv u56 (fun f => f)) (Blk.upd hgi u56 (fun f => f)))
       rw [HV1.out, HI1.out] at C2
       unfold pv at C2
       rw [Hn.out] at c12
       rw [Hm.out] at c13
       clear C1 CCL hgv hgi
       go_wp2_with fail
       refine C2.out.mono ?_
       rintro e w8 ⟨rfl, hgv, hgi, u8⟩
       have HU8 : Upd Non W w8 := u7.trans u8 (fun i hi h => by omega)
       have u89 := u8
       obtain ⟨c0, c1, c2, c3, c4, c5, c6, c7, c8, c9, c10, c11, c12, c13⟩ := HC.out _ HU8
       rw [Hn.out] at c12
       rw [Hm.out] at c13
       have HB1 : Hid (((V1.drop 1).all fun x => decide (x ≠ 0)) = true ↔ ∀ i : Nat, 1 ≤ i → i ≤ n → V1.getD i 0 ≠ 0) := by
        show _ ↔ _
        rw [all_drop (d := 0) HVL1.out.1]
        simp only [decide_eq_true_eq]
       have HB2 : Hid (((I1.drop 1).all fun x => decide (x ≠ 0)) = true ↔ ∀ i : Nat, 1 ≤ i → i ≤ m → I1.getD i 0 ≠ 0) := by
        show _ ↔ _
        rw [all_drop (d := 0) HIL1.out.1]
        simp only [decide_eq_true_eq]
       obtain ⟨b1, Hb1⟩ := nm ((V1.drop 1).all fun x => decide (x ≠ 0))
       obtain ⟨b2, Hb2⟩ := nm ((I1.drop 1).all fun x => decide (x ≠ 0))
       rw [Hb1.out] at HB1 HR3
       rw [Hb2.out] at HB2 HR3
       have hNn : N = n + 1 := HN.out.symm
       have hMm : M = m + 1 := HM.out.symm
       have HNn := Lib.hid hNn
       have HMm := Lib.hid hMm
       have HU := hU.then_non HU8
       clear C2 hNn hMm mkN mkM u8 u5 u6 u56
       go_wp2_with fail
       go_loopg [7] n (fun g i wr => ∃ k : Nat, Hid (g = n + 1 - k) ∧ 1 ≤ k ∧ k ≤ n + 1 ∧ i = .int .i64 k ∧ Hid (∀ j : Nat, 1 ≤ j → j < k → V1.getD j 0 ≠ 0) ∧ w8 = wr)
       case atStart => exact ⟨1, by show _ = _; omega, by omega, by omega, rfl, fun j h1 h2 => by omega, rfl⟩
       case round =>
        obtain ⟨k, Hg, hk1, hk2, rfl, HA, rfl⟩ := hrel
        by_cases hlt : k ≤ n
        ·
         have t3 : decide (k ≤ n) = true := decide_eq_true (by omega)
         have hkN : (k : Int) < (N : Int) := by have := HNn.out; omega
         have hk0 : (0 : Int) ≤ (k : Int) := by omega
         have x1 := VBlk.cell hgv (i := k) (by rw [HVL1.out.1]; omega)
         obtain ⟨z, Hz⟩ := nm (V1.getD k 0)
         rw [Hz.out] at x1
         by_cases h0 : z = 0
         ·
          subst h0
          have hb : b1 = false := by
           rw [Bool.eq_false_iff]
           intro q
           exact HB1.out.1 q k hk1 hlt Hz.out
          have HF : Hid (R = false) := by show _ = _; rw [HR3.out, hb]; rfl
          clear hb
          go_wp2_with fail
          go_ret
          exact ⟨by rw [HF.out]; rfl, HU⟩
         ·
          have t4 : (z == 0) = false := by simpa using h0
          have HA2 : Hid (∀ j : Nat, 1 ≤ j → j < k + 1 → V1.getD j 0 ≠ 0) := by
           intro j j1 j2
           by_cases e : j = k
           ·
            rw [e, Hz.out]; exact h0
           ·
            exact HA.out j j1 (by omega)
          clear h0
          go_wp2_with fail
          go_roundg (n + 1 - (k + 1))
          case measure => rw [Hg.out]; omega
          case rel => exact ⟨k + 1, rfl, by omega, by omega, by go_num, HA2, rfl⟩
        ·
         have t3 : decide (k ≤ n) = false := decide_eq_false (by omega)
         have hb1 : b1 = true := HB1.out.2 (fun i i1 i2 => HA.out i i1 (by omega))
         subst hb1
         have HR4 : Hid (R = (b2 && (decide (r.r.v ≠ 0) || decide ((rsF r.r.op).2 = own)) && ((colV (occ r.r own) V1).drop 1).all (fun x => decide (x ≠ 3)) && r.conds.all fun c => condF c (colV (occ r.r own) V1) (m : Int))) := by show _ = _; rw [HR3.out]; simp
         clear HA Hg hk1 hk2 hlt HR3
         go_wp2_with fail
         go_loopg [8] m (fun g i wr => ∃ k : Nat, Hid (g = m + 1 - k) ∧ 1 ≤ k ∧ k ≤ m + 1 ∧ i = .int .i64 k ∧ Hid (∀ j : Nat, 1 ≤ j → j < k → I1.getD j 0 ≠ 0) ∧ w8 = wr)
         case atStart => exact ⟨1, by show _ = _; omega, by omega, by omega, rfl, fun j h1 h2 => by omega, rfl⟩
         case round =>
          obtain ⟨k, Hg, hk1, hk2, rfl, HA, rfl⟩ := hrel
          by_cases hlt : k ≤ m
          ·
           have t3 : decide (k ≤ m) = true := decide_eq_true (by omega)
           have hkN : (k : Int) < (M : Int) := by have := HMm.out; omega
           have hk0 : (0 : Int) ≤ (k : Int) := by omega
           have x1 := VBlk.cell hgi (i := k) (by rw [HIL1.out.1]; omega)
           obtain ⟨z, Hz⟩ := nm (I1.getD k 0)
           rw [Hz.out] at x1
           by_cases h0 : z = 0
           ·
            subst h0
            have hb : b2 = false := by
             rw [Bool.eq_false_iff]
             intro q
             exact HB2.out.1 q k hk1 hlt Hz.out
            have HF : Hid (R = false) := by show _ = _; rw [HR4.out, hb]; rfl
            clear hb
            go_wp2_with fail
            go_ret
            exact ⟨by rw [HF.out]; rfl, HU⟩
           ·
            have t4 : (z == 0) = false := by simpa using h0
            have HA2 : Hid (∀ j : Nat, 1 ≤ j → j < k + 1 → I1.getD j 0 ≠ 0) := by
             intro j j1 j2
             by_cases e : j = k
             ·
              rw [e, Hz.out]; exact h0
             ·
              exact HA.out j j1 (by omega)
            clear h0
            go_wp2_with fail
            go_roundg (m + 1 - (k + 1))
            case measure => rw [Hg.out]; omega
            case rel => exact ⟨k + 1, rfl, by omega, by omega, by go_num, HA2, rfl⟩
          ·
           have t3 : decide (k ≤ m) = false := decide_eq_false (by omega)
           have hb2 : b2 = true := HB2.out.2 (fun i i1 i2 => HA.out i i1 (by omega))
           subst hb2
           have HR5 : Hid (R = ((decide (r.r.v ≠ 0) || decide ((rsF r.r.op).2 = own)) && ((colV (occ r.r own) V1).drop 1).all (fun x => decide (x ≠ 3)) && r.conds.all fun c => condF c (colV (occ r.r own) V1) (m : Int))) := by show _ = _; rw [HR4.out]; simp
           clear HA Hg hk1 hk2 hlt HR4
           have C1 := Lib.hid (CS.out r.r.op w8)
           obtain ⟨sR, HsR⟩ := nm (rsF r.r.op).2
           rw [HsR.out] at C1 HR5
           go_wp2_with fail
           refine C1.out.mono ?_
           rintro e w9 ⟨rfl, u9⟩
           obtain ⟨y0, Hy0⟩ := nm ((rsF r.r.op).1.getD 0 0)
           obtain ⟨y1, Hy1⟩ := nm ((rsF r.r.op).1.getD 1 0)
           obtain ⟨y2, Hy2⟩ := nm ((rsF r.r.op).1.getD 2 0)
           rw [Hy0.out, Hy1.out, Hy2.out]
           obtain ⟨WA, HWA⟩ := nm (w9.alloc (.cells #[.int .i64 y0, .int .i64 y1, .int .i64 y2] 92))
           have eA := HWA.out
           have uA : Upd Non w9 WA := by rw [← eA]; exact Upd.refl.alloc _
           have u9A := u9.then_non uA
           have HUA := HU8.then_non u9A
           have hgvA : VBlk WA gv V1 := Blk.upd hgv u9A (fun f => f)
           have hgiA : VBlk WA gi I1 := Blk.upd hgi u9A (fun f => f)
           obtain ⟨c0, c1, c2, c3, c4, c5, c6, c7, c8, c9, c10, c11, c12, c13⟩ := HC.out _ HUA
           rw [Hn.out] at c12
           rw [Hm.out] at c13
           have HU := hU.then_non HUA
           have C2 := Lib.hid (rlCollect_c r.r WA _ a.ra a.rc gv N gi M own 0 m n V1 I1 (PtK.upd HUA (fun _ _ _ f => f) _ _ _ HK.out.r) hFv hFi hne hgvA hgiA HSR.out HVL1.out.1 HIL1.out.1 (by omega) (by omega))
           rw [HVL1.out.2, HIL1.out.2] at C2
           have HVL2 : Hid ((colV (occ r.r own) V1).length = n + 1 ∧ (colV (occ r.r own) V1).length = N) := by
            show _ ∧ _
            rw [colV_len]; exact HVL1.out
           obtain ⟨V2, HV2⟩ := nm (colV (occ r.r own) V1)
           rw [HV2.out] at C2 HR5 HVL2
           unfold pv at C2
           clear C1 hgv hgi hgvA hgiA c0 c1 c2 c3 c4 c5
           by_cases hv : r.r.v = 0
           ·
            have t5 : (r.r.v == 0) = true := by simp [hv]
            by_cases hs : sR = own
            ·
             have t6 : (sR != own) = false := by simp [hs]
             have HR6 : Hid (R = (((V2.drop 1).all fun x => decide (x ≠ 3)) && r.conds.all fun c => condF c V2 (m : Int))) := by show _ = _; rw [HR5.out, decide_eq_true hs]; simp
             clear hv hs HR5
             go_wp2_with fail
             refine C2.out.mono ?_
             rintro e w10 ⟨rfl, hgv, hgi, u10⟩
             have hsA := HU8.size
             have HUB : Upd Non W w10 := HUA.trans u10 (fun i hi h => by omega)
             have HU := hU.then_non HUB
             obtain ⟨c0, c1, c2, c3, c4, c5, c6, c7, c8, c9, c10, c11, c12, c13⟩ := HC.out _ HUB
             rw [Hn.out] at c12
             rw [Hm.out] at c13
             have HB4 : Hid (((V2.drop 1).all fun x => decide (x ≠ 3)) = true ↔ ∀ i : Nat, 1 ≤ i → i ≤ n → V2.getD i 0 ≠ 3) := by
              show _ ↔ _
              rw [all_drop (d := 0) HVL2.out.1]
              simp only [decide_eq_true_eq]
             obtain ⟨b4, Hb4⟩ := nm ((V2.drop 1).all fun x => decide (x ≠ 3))
             rw [Hb4.out] at HB4 HR6
             clear C2 hgi u10 HUA
             go_wp2_with fail
             go_loopg [11] n (fun g i wr => ∃ k : Nat, Hid (g = n + 1 - k) ∧ 1 ≤ k ∧ k ≤ n + 1 ∧ i = .int .i64 k ∧ Hid (∀ j : Nat, 1 ≤ j → j < k → V2.getD j 0 ≠ 3) ∧ w10 = wr)
             case atStart => exact ⟨1, by show _ = _; omega, by omega, by omega, rfl, fun j h1 h2 => by omega, rfl⟩
             case round =>
              obtain ⟨k, Hg, hk1, hk2, rfl, HA, rfl⟩ := hrel
              by_cases hlt : k ≤ n
              ·
               have t3 : decide (k ≤ n) = true := decide_eq_true (by omega)
               have hkN : (k : Int) < (N : Int) := by have := HNn.out; omega
               have hk0 : (0 : Int) ≤ (k : Int) := by omega
               have x1 := VBlk.cell hgv (i := k) (by rw [HVL2.out.1]; omega)
               obtain ⟨z, Hz⟩ := nm (V2.getD k 0)
               rw [Hz.out] at x1
               by_cases h0 : z = 3
               ·
                subst h0
                have hb : b4 = false := by
                 rw [Bool.eq_false_iff]
                 intro q
                 exact HB4.out.1 q k hk1 hlt Hz.out
                have HF : Hid (R = false) := by show _ = _; rw [HR6.out, hb]; rfl
                clear hb
                go_wp2_with fail
                go_ret
                exact ⟨by rw [HF.out]; rfl, HU⟩
               ·
                have t4 : (z == 3) = false := by simpa using h0
                have HA2 : Hid (∀ j : Nat, 1 ≤ j → j < k + 1 → V2.getD j 0 ≠ 3) := by
                 intro j j1 j2
                 by_cases e : j = k
                 ·
                  rw [e, Hz.out]; exact h0
                 ·
                  exact HA.out j j1 (by omega)
                clear h0
                go_wp2_with fail
                go_roundg (n + 1 - (k + 1))
                case measure => rw [Hg.out]; omega
                case rel => exact ⟨k + 1, rfl, by omega, by omega, by go_num, HA2, rfl⟩
              ·
               have t3 : decide (k ≤ n) = false := decide_eq_false (by omega)
               have hb4 : b4 = true := HB4.out.2 (fun i i1 i2 => HA.out i i1 (by omega))
               subst hb4
               have HR7 : Hid (R = r.conds.all fun c => condF c V2 (m : Int)) := by show _ = _; rw [HR6.out]; simp
               have HI2 := Lib.hid hgv.ints
               obtain ⟨cn, Hcn⟩ := nm r.conds.length
               have hcn := H6.out
               rw [Hcn.out] at c11 hcn
               clear HA Hg hk1 hk2 hlt HR6
               go_wp2_with fail
               go_loopg [13, 129] cn (fun g _ i wr => ∃ q : Nat, Hid (g = cn - q) ∧ q ≤ cn ∧ i = .int .i64 q ∧ Hid (∀ j (h : j < r.conds.length), j < q → condF r.conds[j] V2 (m : Int) = true) ∧ Upd Non w10 wr)
               case atStart => exact ⟨0, rfl, by omega, rfl, fun j h1 h2 => by omega, Upd.refl⟩
               case round =>
                obtain ⟨q, Hg, hq, rfl, HA, hu⟩ := hrel
                have HUC := HUB.then_non hu
                by_cases hlt : q < cn
                ·
                 have hql : q < r.conds.length := by rw [Hcn.out]; exact hlt
                 have hcv := HK.out.c.upd HUC (fun _ _ _ f => f)
                 obtain ⟨cb, co, ecA, hF, hcb, k0, k1, k2, k3⟩ := hcv.at_ hql
                 have hcond : Hid (∀ b, condF r.conds[q] V2 (m : Int) = b → (b = false → R = false) ∧ (b = true → ∀ j (h : j < r.conds.length), j < q + 1 → condF r.conds[j] V2 (m : Int) = true)) := by
                  intro b hb
                  refine ⟨fun h => ?_, fun h j hj1 hj2 => ?_⟩
                  ·
                   rw [HR7.out, Bool.eq_false_iff]
                   intro h2
                   rw [List.all_eq_true] at h2
                   have := h2 _ (List.getElem_mem hql)
                   rw [hb, h] at this; cases this
                  ·
                   by_cases e : j = q
                   ·
                    subst e; rw [hb, h]
                   ·
                    exact HA.out j hj1 (by omega)
                 generalize r.conds[q] = x at *
                 obtain ⟨d0, d1, d2, d3, d4, d5, d6, d7, d8, d9, d10, d11, d12, d13⟩ := HC.out _ HUC
                 rw [ecA, Hcn.out] at d11
                 rw [Hm.out] at d13
                 obtain ⟨WX, HWX⟩ := nm (wr.alloc (.cells #[.int .i64 x.kind, .int .i64 x.a, .int .i64 x.b, .int .i64 x.n] 66))
                 have eX := HWX.out
                 have uX : Upd Non wr WX := by rw [← eX]; exact Upd.refl.alloc _
                 have bX : Blk WX wr.heap.size 66 #[.int .i64 x.kind, .int .i64 x.a, .int .i64 x.b, .int .i64 x.n] := by rw [← eX]; exact Blk.new _ _ _
                 have f0 := bX.cell 0
                 have f1 := bX.cell 1
                 have f2 := bX.cell 2
                 have f3 := bX.cell 3
                 have f13 := cell_upd d13 uX (fun f => f)
                 have CC := Lib.hid (rlValidCond_c x V2 (m : Int) (some ⟨gv, 0, none⟩) N _ WX ((HI2.out.upd hu (fun _ _ _ f => f)).upd uX (fun _ _ _ f => f)))
                 rw [HVL2.out.2] at CC
                 obtain ⟨cr, Hcr⟩ := nm (condF x V2 (m : Int))
                 rw [Hcr.out] at CC hcond
                 have HCD := Lib.hid (hcond.out cr rfl)
                 simp only [ecA]
                 clear hcv hcond bX
                 go_wp2_with fail
                 refine CC.out.mono ?_
                 rintro e w11 ⟨rfl, u11⟩
                 have HU11 := (hu.then_non uX).then_non u11
                 have HU := HU.then_non HU11
                 cases cr with
                 | false =>
                  have HF : Hid (R = false) := HCD.out.1 rfl
                  go_wp2_with fail
                  go_ret
                  exact ⟨by rw [HF.out]; rfl, HU⟩
                 | true =>
                  have HA2 := Lib.hid (HCD.out.2 rfl)
                  go_wp2_with fail
                  simp only [← ecA]
                  go_roundg (cn - (q + 1))
                  case measure => rw [Hg.out]; omega
                  case rel => exact ⟨q + 1, rfl, by omega, by go_num, HA2.out, HU11⟩
                ·
                 obtain rfl : cn = q := by omega
                 have HF : Hid (R = true) := by
                  show _ = _
                  rw [HR7.out, List.all_eq_true]
                  intro c hc
                  obtain ⟨j, hj, rfl⟩ := List.mem_iff_getElem.1 hc
                  exact HA.out j hj (by rw [← Hcn.out]; exact hj)
                 have HU := HU.then_non hu
                 go_wp2_with fail
                 go_ret
                 exact ⟨by rw [HF.out]; rfl, HU⟩
            ·
             have t6 : (sR != own) = true := by simp [hs]
             have HF : Hid (R = false) := by show _ = _; rw [HR5.out, decide_eq_false hs, decide_eq_false (fun q => q hv)]; rfl
             clear hv hs
             go_wp2_with fail
             go_ret
             exact ⟨by rw [HF.out]; rfl, HU⟩
           ·
            have t5 : (r.r.v == 0) = false := by simp [hv]
            have HR6 : Hid (R = (((V2.drop 1).all fun x => decide (x ≠ 3)) && r.conds.all fun c => condF c V2 (m : Int))) := by show _ = _; rw [HR5.out, decide_eq_true (show r.r.v ≠ 0 from hv)]; simp
            clear hv HR5
            go_wp2_with fail
            refine C2.out.mono ?_
            rintro e w10 ⟨rfl, hgv, hgi, u10⟩
            have hsA := HU8.size
            have HUB : Upd Non W w10 := HUA.trans u10 (fun i hi h => by omega)
            have HU := hU.then_non HUB
            obtain ⟨c0, c1, c2, c3, c4, c5, c6, c7, c8, c9, c10, c11, c12, c13⟩ := HC.out _ HUB
            rw [Hn.out] at c12
            rw [Hm.out] at c13
            have HB4 : Hid (((V2.drop 1).all fun x => decide (x ≠ 3)) = true ↔ ∀ i : Nat, 1 ≤ i → i ≤ n → V2.getD i 0 ≠ 3) := by
             show _ ↔ _
             rw [all_drop (d := 0) HVL2.out.1]
             simp only [decide_eq_true_eq]
            obtain ⟨b4, Hb4⟩ := nm ((V2.drop 1).all fun x => decide (x ≠ 3))
            rw [Hb4.out] at HB4 HR6
            clear C2 hgi u10 HUA
            go_wp2_with fail
            go_loopg [11] n (fun g i wr => ∃ k : Nat, Hid (g = n + 1 - k) ∧ 1 ≤ k ∧ k ≤ n + 1 ∧ i = .int .i64 k ∧ Hid (∀ j : Nat, 1 ≤ j → j < k → V2.getD j 0 ≠ 3) ∧ w10 = wr)
            case atStart => exact ⟨1, by show _ = _; omega, by omega, by omega, rfl, fun j h1 h2 => by omega, rfl⟩
            case round =>
             obtain ⟨k, Hg, hk1, hk2, rfl, HA, rfl⟩ := hrel
             by_cases hlt : k ≤ n
             ·
              have t3 : decide (k ≤ n) = true := decide_eq_true (by omega)
              have hkN : (k : Int) < (N : Int) := by have := HNn.out; omega
              have hk0 : (0 : Int) ≤ (k : Int) := by omega
              have x1 := VBlk.cell hgv (i := k) (by rw [HVL2.out.1]; omega)
              obtain ⟨z, Hz⟩ := nm (V2.getD k 0)
              rw [Hz.out] at x1
              by_cases h0 : z = 3
              ·
               subst h0
               have hb : b4 = false := by
                rw [Bool.eq_false_iff]
                intro q
                exact HB4.out.1 q k hk1 hlt Hz.out
               have HF : Hid (R = false) := by show _ = _; rw [HR6.out, hb]; rfl
               clear hb
               go_wp2_with fail
               go_ret
               exact ⟨by rw [HF.out]; rfl, HU⟩
              ·
               have t4 : (z == 3) = false := by simpa using h0
               have HA2 : Hid (∀ j : Nat, 1 ≤ j → j < k + 1 → V2.getD j 0 ≠ 3) := by
                intro j j1 j2
                by_cases e : j = k
                ·
                 rw [e, Hz.out]; exact h0
                ·
                 exact HA.out j j1 (by omega)
               clear h0
               go_wp2_with fail
               go_roundg (n + 1 - (k + 1))
               case measure => rw [Hg.out]; omega
               case rel => exact ⟨k + 1, rfl, by omega, by omega, by go_num, HA2, rfl⟩
             ·
              have t3 : decide (k ≤ n) = false := decide_eq_false (by omega)
              have hb4 : b4 = true := HB4.out.2 (fun i i1 i2 => HA.out i i1 (by omega))
              subst hb4
              have HR7 : Hid (R = r.conds.all fun c => condF c V2 (m : Int)) := by show _ = _; rw [HR6.out]; simp
              have HI2 := Lib.hid hgv.ints
              obtain ⟨cn, Hcn⟩ := nm r.conds.length
              have hcn := H6.out
              rw [Hcn.out] at c11 hcn
              clear HA Hg hk1 hk2 hlt HR6
              go_wp2_with fail
              go_loopg [13, 129] cn (fun g _ i wr => ∃ q : Nat, Hid (g = cn - q) ∧ q ≤ cn ∧ i = .int .i64 q ∧ Hid (∀ j (h : j < r.conds.length), j < q → condF r.conds[j] V2 (m : Int) = true) ∧ Upd Non w10 wr)
              case atStart => exact ⟨0, rfl, by omega, rfl, fun j h1 h2 => by omega, Upd.refl⟩
              case round =>
               obtain ⟨q, Hg, hq, rfl, HA, hu⟩ := hrel
               have HUC := HUB.then_non hu
               by_cases hlt : q < cn
               ·
                have hql : q < r.conds.length := by rw [Hcn.out]; exact hlt
                have hcv := HK.out.c.upd HUC (fun _ _ _ f => f)
                obtain ⟨cb, co, ecA, hF, hcb, k0, k1, k2, k3⟩ := hcv.at_ hql
                have hcond : Hid (∀ b, condF r.conds[q] V2 (m : Int) = b → (b = false → R = false) ∧ (b = true → ∀ j (h : j < r.conds.length), j < q + 1 → condF r.conds[j] V2 (m : Int) = true)) := by
                 intro b hb
                 refine ⟨fun h => ?_, fun h j hj1 hj2 => ?_⟩
                 ·
                  rw [HR7.out, Bool.eq_false_iff]
                  intro h2
                  rw [List.all_eq_true] at h2
                  have := h2 _ (List.getElem_mem hql)
                  rw [hb, h] at this; cases this
                 ·
                  by_cases e : j = q
                  ·
                   subst e; rw [hb, h]
                  ·
                   exact HA.out j hj1 (by omega)
                generalize r.conds[q] = x at *
                obtain ⟨d0, d1, d2, d3, d4, d5, d6, d7, d8, d9, d10, d11, d12, d13⟩ := HC.out _ HUC
                rw [ecA, Hcn.out] at d11
                rw [Hm.out] at d13
                obtain ⟨WX, HWX⟩ := nm (wr.alloc (.cells #[.int .i64 x.kind, .int .i64 x.a, .int .i64 x.b, .int .i64 x.n] 66))
                have eX := HWX.out
                have uX : Upd Non wr WX := by rw [← eX]; exact Upd.refl.alloc _
                have bX : Blk WX wr.heap.size 66 #[.int .i64 x.kind, .int .i64 x.a, .int .i64 x.b, .int .i64 x.n] := by rw [← eX]; exact Blk.new _ _ _
                have f0 := bX.cell 0
                have f1 := bX.cell 1
                have f2 := bX.cell 2
                have f3 := bX.cell 3
                have f13 := cell_upd d13 uX (fun f => f)
                have CC := Lib.hid (rlValidCond_c x V2 (m : Int) (some ⟨gv, 0, none⟩) N _ WX ((HI2.out.upd hu (fun _ _ _ f => f)).upd uX (fun _ _ _ f => f)))
                rw [HVL2.out.2] at CC
                obtain ⟨cr, Hcr⟩ := nm (condF x V2 (m : Int))
                rw [Hcr.out] at CC hcond
                have HCD := Lib.hid (hcond.out cr rfl)
                simp only [ecA]
                clear hcv hcond bX
                go_wp2_with fail
                refine CC.out.mono ?_
                rintro e w11 ⟨rfl, u11⟩
                have HU11 := (hu.then_non uX).then_non u11
                have HU := HU.then_non HU11
                cases cr with
                | false =>
                 have HF : Hid (R = false) := HCD.out.1 rfl
                 go_wp2_with fail
                 go_ret
                 exact ⟨by rw [HF.out]; rfl, HU⟩
                | true =>
                 have HA2 := Lib.hid (HCD.out.2 rfl)
                 go_wp2_with fail
                 simp only [← ecA]
                 go_roundg (cn - (q + 1))
                 case measure => rw [Hg.out]; omega
                 case rel => exact ⟨q + 1, rfl, by omega, by go_num, HA2.out, HU11⟩
               ·
                obtain rfl : cn = q := by omega
                have HF : Hid (R = true) := by
                 show _ = _
                 rw [HR7.out, List.all_eq_true]
                 intro c hc
                 obtain ⟨j, hj, rfl⟩ := List.mem_iff_getElem.1 hc
                 exact HA.out j hj (by rw [← Hcn.out]; exact hj)
                have HU := HU.then_non hu
                go_wp2_with fail
                go_ret
                exact ⟨by rw [HF.out]; rfl, HU⟩
     ·
      have t2 : decide ((6 : Int) < (r.conds.length : Int)) = true := decide_eq_true (by omega)
      have HF : Hid (R = false) := by show _ = _; rw [HR2.out, decide_eq_false h6]; rfl
      clear h6
      go_wp2_with fail
      go_ret
      exact ⟨by rw [HF.out]; rfl, HU⟩
 ·
  have t1 : (r.l.v != 0) = true := by simp [hv]
  have HF : Hid (R = false) := by show _ = _; rw [HR1.out, decide_eq_false hv]; rfl
  have HU := hU
  clear hv
  go_enter Try.func20, Try.ntmps20
  go_wp2_with fail
  go_ret
  exact ⟨by rw [HF.out]; rfl, HU⟩
end Go.Proofs.Ytblkgjdhaibhgaa
namespace Go.Proofs.Ytblkgjdhaibhgaa
open Go.RowKit
def RlAt (w : World) (b o : Nat) (r : Rl) (a : RlA) : Prop :=
  w.cell? ⟨b, o, none⟩ = some (.string r.name) ∧ w.cell? ⟨b, o + 1, none⟩ = some (.int .i64 r.l.v) ∧ w.cell? ⟨b, o + 2, none⟩ = some (.int .i64 r.l.op) ∧ w.cell? ⟨b, o + 3, none⟩ = some (.int .i64 r.l.imm) ∧ w.cell? ⟨b, o + 4, none⟩ = some (.int .i64 r.l.iv) ∧ w.cell? ⟨b, o + 5, none⟩ = some (.slice a.la r.l.kids.length a.lc) ∧
  w.cell? ⟨b, o + 6, none⟩ = some (.int .i64 r.r.v) ∧ w.cell? ⟨b, o + 7, none⟩ = some (.int .i64 r.r.op) ∧ w.cell? ⟨b, o + 8, none⟩ = some (.int .i64 r.r.imm) ∧ w.cell? ⟨b, o + 9, none⟩ = some (.int .i64 r.r.iv) ∧ w.cell? ⟨b, o + 10, none⟩ = some (.slice a.ra r.r.kids.length a.rc) ∧
  w.cell? ⟨b, o + 11, none⟩ = some (.slice a.ca r.conds.length a.cc) ∧ w.cell? ⟨b, o + 12, none⟩ = some (.int .i64 r.vars) ∧ w.cell? ⟨b, o + 13, none⟩ = some (.int .i64 r.imms)
theorem RlAt.upd {w w' : World} {b o : Nat} {r : Rl} {a : RlA} {S : Nat → Prop} (h : RlAt w b o r a) (u : Upd S w w') (hb : ¬ S b) : RlAt w' b o r a := by
 obtain ⟨c0, c1, c2, c3, c4, c5, c6, c7, c8, c9, c10, c11, c12, c13⟩ := h
 exact ⟨cell_upd c0 u hb, cell_upd c1 u hb, cell_upd c2 u hb, cell_upd c3 u hb, cell_upd c4 u hb, cell_upd c5 u hb, cell_upd c6 u hb, cell_upd c7 u hb, cell_upd c8 u hb, cell_upd c9 u hb, cell_upd c10 u hb, cell_upd c11 u hb, cell_upd c12 u hb, cell_upd c13 u hb⟩
def RlsV (w : World) (F : Nat → Prop) (A : Option Addr) (L : List Rl) : Prop :=
 L = [] ∨ ∃ b o, A = some ⟨b, o, none⟩ ∧ F b ∧ ∀ i (h : i < L.length), ∃ a, RlAt w b (o + i * 14) L[i] a ∧ RlK w F L[i] a
theorem RlsV.upd {w w' : World} {F S : Nat → Prop} {A : Option Addr} {L : List Rl} (h : RlsV w F A L) (u : Upd S w w') (d : ∀ k, k < w.heap.size → F k → ¬ S k) : RlsV w' F A L := by
 rcases h with h | ⟨b, o, e, hF, h⟩
 ·
  exact .inl h
 ·
  refine .inr ⟨b, o, e, hF, fun i hi => ?_⟩
  obtain ⟨a, ha, hk⟩ := h i hi
  exact ⟨a, ha.upd u (d b (World.block_lt_of_cell? _ _ ha.1) hF), hk.upd u d⟩
theorem RlsV.at_ {w : World} {F : Nat → Prop} {A : Option Addr} {L : List Rl} (h : RlsV w F A L) {i : Nat} (hi : i < L.length) : ∃ b o a, A = some ⟨b, o, none⟩ ∧ F b ∧ b < w.heap.size ∧ RlAt w b (o + i * 14) L[i] a ∧ RlK w F L[i] a := by
 rcases h with h | ⟨b, o, e, hF, h⟩
 ·
  subst h; simp at hi
 ·
  obtain ⟨a, ha, hk⟩ := h i hi
  exact ⟨b, o, a, e, hF, World.block_lt_of_cell? _ _ ha.1, ha, hk⟩
theorem RlsV.mono {w : World} {F G : Nat → Prop} {A : Option Addr} {L : List Rl} (h : RlsV w F A L) (g : ∀ k, k < w.heap.size → F k → G k) : RlsV w G A L := by
 rcases h with h | ⟨b, o, e, hF, h⟩
 ·
  exact .inl h
 ·
  by_cases hn : L = []
  ·
   exact .inl hn
  ·
   obtain ⟨a, ha, _⟩ := h 0 (List.length_pos_iff.2 hn)
   refine .inr ⟨b, o, e, g b (World.block_lt_of_cell? _ _ ha.1) hF, fun i hi => ?_⟩
   obtain ⟨a, ha, hk⟩ := h i hi
   exact ⟨a, ha, hk.mono g⟩
theorem T_rules : SlT Try.prog 22 33 14 168 := by
 obtain ⟨i, h1, h2, h3, h4⟩ := info_parts (show (Try.prog.info? 33).map (fun i => (i.zero, i.size, i.bytes)) = some (some (.agg #[.string ⟨#[]⟩, .int .i64 0, .int .i64 0, .int .i64 0, .int .i64 0, .slice none 0 0, .int .i64 0, .int .i64 0, .int .i64 0, .int .i64 0, .slice none 0 0, .slice none 0 0, .int .i64 0, .int .i64 0]), 14, 168) from by kernel_rfl)
 exact ⟨Try.underlying22, ⟨i, _, h1, h2, h3, h4, rfl⟩, by omega⟩
section
variable {w w' : World} {F G G' S : Nat → Prop} {A : Option Addr} {L : List Rl} {n c : Nat}
def RsCells (w : World) (K : Nat → Prop) (cs : List Value) (L : List Rl) : Prop :=
 cs.length = 14 * L.length ∧ ∀ i (h : i < L.length), ∃ a, (∀ j, j < 14 → cs[14 * i + j]? = (rlCells L[i] a).toList[j]?) ∧ RlK w K L[i] a
theorem RsCells.nil {K : Nat → Prop} : RsCells w K [] [] := ⟨rfl, fun i h => by simp at h⟩
theorem RsCells.mono {K K' S : Nat → Prop} {cs : List Value} (h : RsCells w K cs L) (u : Upd S w w') (d : ∀ k, k < w.heap.size → K k → ¬ S k) (hK : ∀ k, k < w.heap.size → K k → K' k) : RsCells w' K' cs L := by
 refine ⟨h.1, fun i hi => ?_⟩
 obtain ⟨a, h1, h5⟩ := h.2 i hi
 refine ⟨a, h1, ?_⟩
 have h6 : RlK w (fun k => K' k ∧ K k) L[i] a := h5.mono (fun k hk hK0 => ⟨hK k hk hK0, hK0⟩)
 exact (h6.upd u (fun k hk hk' => d k hk hk'.2)).mono (fun _ _ h => h.1)
theorem RsCells.snoc {K : Nat → Prop} {cs : List Value} (h : RsCells w K cs L) {r : Rl} {a : RlA} (hk : RlK w K r a) :
  RsCells w K (cs ++ (rlCells r a).toList) (L ++ [r]) := by
 refine ⟨by simp [h.1, rlCells]; omega, fun i hi => ?_⟩
 have hl := h.1
 by_cases hlt : i < L.length
 ·
  obtain ⟨a, h1, h5⟩ := h.2 i hlt
  refine ⟨a, fun j hj => ?_, ?_⟩
  ·
   rw [List.getElem?_append_left (by omega), List.getElem_append_left hlt]; exact h1 j hj
  ·
   rw [List.getElem_append_left hlt]; exact h5
 ·
  have he : i = L.length := by simp at hi; omega
  subst he
  refine ⟨a, fun j hj => ?_, ?_⟩
  ·
   rw [List.getElem?_append_right (by omega), hl]; simp
  ·
   simpa using hk
def RlO (w : World) (G : Nat → Prop) (A : Option Addr) (n c : Nat) (L : List Rl) : Prop :=
 n = L.length ∧ ∃ cs, Own w 33 14 A n c cs ∧ RsCells w (fun k => G k ∧ ¬ At A k) cs L
theorem RlO.none_ : RlO w G none 0 0 [] := ⟨rfl, [], Own.none_, RsCells.nil⟩
theorem RlO.upd (h : RlO w G A n c L) (u : Upd S w w') (dA : ∀ k, At A k → ¬ S k) (dG : ∀ k, k < w.heap.size → G k → ¬ S k) : RlO w' G A n c L := by
 obtain ⟨h1, cs, h2, h3⟩ := h
 exact ⟨h1, cs, h2.upd u dA, h3.mono u (fun k hk hg => dG k hk hg.1) (fun _ _ h => h)⟩
theorem RlO.mono (h : RlO w G A n c L) (hG : ∀ k, k < w.heap.size → G k → G' k) : RlO w G' A n c L := by
 obtain ⟨h1, cs, h2, h3⟩ := h
 exact ⟨h1, cs, h2, h3.mono (Upd.refl (S := Non)) (fun _ _ _ f => f) (fun k hk hg => ⟨hG k hk hg.1, hg.2⟩)⟩
theorem RlO.le (h : RlO w G A n c L) : n ≤ c := by obtain ⟨_, _, h2, _⟩ := h; exact h2.le
theorem RlO.lt (h : RlO w G A n c L) {k : Nat} (hk : At A k) : k < w.heap.size := by obtain ⟨_, _, h2, _⟩ := h; exact h2.lt hk
theorem RlO.view (h : RlO w G A n c L) (hA : ∀ k, At A k → F k) (hG : ∀ k, k < w.heap.size → G k → F k) : RlsV w F A L := by
 obtain ⟨rfl, cs, h2, h3⟩ := h
 rcases h2.cases with ⟨_, h0, _, _⟩ | ⟨g, cur, rfl, hb, _, _, _, ht⟩
 ·
  exact .inl (List.eq_nil_of_length_eq_zero h0)
 ·
  refine .inr ⟨g, 0, rfl, hA g (At.some_.2 rfl), fun i hi => ?_⟩
  have hl := h3.1
  obtain ⟨a, c1, c5⟩ := h3.2 i hi
  have hcell : ∀ j u, cs[j]? = some u → w.cell? ⟨g, j, none⟩ = some u := by
   intro j u hj
   rw [hb.cell]
   rw [← ht] at hj
   rw [List.getElem?_take] at hj
   split at hj
   ·
    simpa using hj
   ·
    cases hj
  have e : 0 + i * 14 = 14 * i := by omega
  refine ⟨a, ?_, c5.mono (fun k hk hg => hG k hk hg.1)⟩
  rw [e]
  exact ⟨hcell _ _ (c1 0 (by omega)), hcell _ _ (c1 1 (by omega)), hcell _ _ (c1 2 (by omega)), hcell _ _ (c1 3 (by omega)), hcell _ _ (c1 4 (by omega)), hcell _ _ (c1 5 (by omega)), hcell _ _ (c1 6 (by omega)), hcell _ _ (c1 7 (by omega)), hcell _ _ (c1 8 (by omega)), hcell _ _ (c1 9 (by omega)), hcell _ _ (c1 10 (by omega)), hcell _ _ (c1 11 (by omega)), hcell _ _ (c1 12 (by omega)), hcell _ _ (c1 13 (by omega))⟩
theorem RlO.snoc {cs : List Value} (hn : n = L.length) (hc : RsCells w (fun k => G k ∧ ¬ At A k) cs L) {r : Rl} {a : RlA} (hk : RlK w (fun k => G k ∧ ¬ At A k) r a)
  {A' : Option Addr} {c' : Nat} (ho : Own w' 33 14 A' (n + 1) c' (cs ++ (rlCells r a).toList)) (hu : Upd (At A) w w') (hat : ∀ k, At A' k → At A k ∨ k = w.heap.size) (hG : ∀ k, k < w.heap.size → G k → G' k) :
  RlO w' G' A' (n + 1) c' (L ++ [r]) := by
 refine ⟨by simp [hn], _, ho, ?_⟩
 refine (hc.snoc hk).mono hu (fun k _ hg => hg.2) (fun k hk hg => ⟨hG k hk hg.1, fun hA => ?_⟩)
 rcases hat k hA with h | h
 ·
  exact hg.2 h
 ·
  omega
end
def nmV (L : List Rl) (s : ByteArray) : Option Value := if L.any (fun q => decide (q.name = s)) then some (.bool true) else none
theorem nmV_nil : nmV [] = fun _ => none := rfl
theorem nmV_get (L : List Rl) (s : ByteArray) : (nmV L s).getD (.bool false) = .bool (L.any (fun q => decide (q.name = s))) := by
 unfold nmV
 cases L.any (fun q => decide (q.name = s)) <;> rfl
theorem nmV_snoc (L : List Rl) (r : Rl) : (fun x => if x = r.name then some (Value.bool true) else nmV L x) = nmV (L ++ [r]) := by
 funext x
 unfold nmV
 rw [List.any_append]
 by_cases h : x = r.name
 ·
  rw [if_pos h, if_pos]
  rw [Bool.or_eq_true]
  exact .inr (by simp [h])
 ·
  rw [if_neg h]
  have : [r].any (fun q => decide (q.name = x)) = false := by simpa using fun e => h e.symm
  rw [this, Bool.or_false]
section
variable {T : List (Bs × Nat)} {fin : Nat} {L : List Tok}
theorem atomF_kids {left : Bool} {s : Bs} {x y : PS} {q : Pt} (h : atomF left s x = some (q, y)) : q.kids = [] := by
 unfold atomF at h
 split at h
 ·
  injection h with h; injection h with h _; subst h; rfl
 ·
  split at h
  ·
   injection h with h; injection h with h _; subst h; rfl
  ·
   split at h
   ·
    injection h with h; injection h with h _; subst h; rfl
   ·
    cases h
theorem kidsF_size {g : PS → Except Er (Pt × PS)} (hg : ∀ x y q, g x = .ok (q, y) → q.size + x.i ≤ y.i) : ∀ {n : Nat} {x y : PS} {l : List Pt}, kidsF g n x = .ok (l, y) → Pt.sizeL l + x.i ≤ y.i
 | 0, x, y, l, h => by simp only [kidsF] at h; injection h with h; injection h with h1 h; subst h; subst h1; simp [Pt.sizeL]
 | n + 1, x, y, l, h => by
  rw [kidsF] at h
  split at h
  ·
   cases h
  ·
   rename_i q z hq
   split at h
   ·
    cases h
   ·
    rename_i l2 z2 hk
    injection h with h; injection h with h1 h; subst h; subst h1
    have e1 := hg _ _ _ hq
    have e2 := kidsF_size hg hk
    simp only [Pt.sizeL]
    omega
theorem termF_size {left : Bool} : ∀ (f : Nat) (x y : PS) (q : Pt), termF T fin left f x = .ok (q, y) → q.size + x.i ≤ y.i
 | 0, x, y, q, h => by unfold termF at h; cases h
 | f + 1, x, y, q, h => by
  rw [termF_succ] at h
  split at h
  ·
   unfold appF at h
   split at h
   ·
    cases h
   ·
    rename_i q1 y1 h1
    split at h
    ·
     cases h
    ·
     rename_i l z h2
     split at h
     ·
      cases h
     ·
      rename_i u h3
      injection h with h; injection h with h4 h; subst h; subst h4
      have e1 : y1.i = x.i + 1 + 1 := wrdF_i h1
      have e2 := kidsF_size (termF_size f) h2
      have e3 := expF_i h3
      rw [Pt.size_eq]
      show 1 + Pt.sizeL l + x.i ≤ u.i
      omega
  ·
   have e1 := wrdF_i h
   have hk : q.kids = [] := by
    rw [wrd_eq] at h
    split at h
    ·
     split at h
     ·
      rename_i h2; injection h with h; injection h with h _; subst h; exact atomF_kids h2
     ·
      cases h
    ·
     cases h
   rw [size_leaf' hk]
   omega
theorem condsF_len : ∀ (f : Nat) (x y : PS) (l : List Cd), condsF T fin f x = .ok (l, y) → l.length + x.i ≤ y.i
 | 0, x, y, l, h => by unfold condsF at h; injection h with h; injection h with h1 h; subst h; subst h1; simp
 | f + 1, x, y, l, h => by
  rw [condsF_succ] at h
  split at h
  ·
   split at h
   ·
    cases h
   ·
    rename_i c y1 h1
    have e1 : x.i + 1 ≤ y1.i := pcondF_i h1
    split at h
    ·
     cases h
    ·
     rename_i l2 z h2
     have e2 := condsF_len f _ _ _ h2
     injection h with h; injection h with h3 h; subst h; subst h3
     rw [List.length_cons]
     omega
  ·
   injection h with h; injection h with h1 h; subst h; subst h1; simp
theorem ifF_len {f : Nat} {x y : PS} {l : List Cd} (h : ifF T fin f x = .ok (l, y)) : l.length + x.i ≤ y.i := by
 unfold ifF at h
 split at h
 ·
  split at h
  ·
   cases h
  ·
   rename_i c y1 h1
   have e1 : x.i + 1 ≤ y1.i := pcondF_i h1
   split at h
   ·
    cases h
   ·
    rename_i l2 z h2
    have e2 := condsF_len f _ _ _ h2
    injection h with h; injection h with h3 h; subst h; subst h3
    rw [List.length_cons]
    omega
 ·
  injection h with h; injection h with h1 h; subst h; subst h1; simp
theorem expF_lt {s : Bs} {x y : PS} (h : expF T fin s x = .ok y) : y.i ≤ T.length := by
 have e := expF_i h
 unfold expF at h
 split at h
 ·
  rename_i q; have := tkF_lt q; omega
 ·
  cases h
theorem ruleF_sz (hL : LOk L T fin) {x y : PS} {r : Rl} (h : ruleF T fin x = .ok (r, y)) : RlSz r := by
 have hTl := hL.lt
 have hTn := hL.len
 unfold ruleF at h
 split at h
 ·
  cases h
 ·
  rename_i s x1 h1
  have e1 : x1.i = x.i + 1 := wrdF_i (x := { x with vs := [], ms := [] }) h1
  have hs : s.length ≤ 20000 := by
   unfold anyF at h1
   rw [wrd_eq] at h1
   split at h1
   ·
    rename_i s2 hw
    have hi : ({ x with vs := [], ms := [] } : PS).i < L.length := by
     unfold wkF at hw
     split at hw
     ·
      rename_i q; have := tkF_lt q; omega
     ·
      cases hw
    have := (hL.at_ hi hw).2.2.2.1
    injection h1 with h1; injection h1 with h1 _; subst h1; exact this
   ·
    cases h1
  split at h
  ·
   cases h
  ·
   rename_i x2 h2
   have e2 := expF_i h2
   split at h
   ·
    cases h
   ·
    rename_i l x3 h3
    have e3 := termF_size _ _ _ _ h3
    split at h
    ·
     cases h
    ·
     rename_i x4 h4
     have e4 := expF_i h4
     split at h
     ·
      cases h
     ·
      rename_i r5 x5 h5
      have e5 := termF_size _ _ _ _ h5
      split at h
      ·
       cases h
      ·
       rename_i cs x6 h6
       have e6 := ifF_len h6
       split at h
       ·
        cases h
       ·
        rename_i x7 h7
        have e7 := expF_i h7
        have e8 := expF_lt h7
        injection h with h; injection h with h _; subst h
        refine ⟨?_, ?_, ?_, ?_⟩
        ·
         show l.size ≤ _; omega
        ·
         show r5.size ≤ _; omega
        ·
         show cs.length ≤ _; omega
        ·
         show (ByteArray.mk s.toArray).size ≤ _
         have : (ByteArray.mk s.toArray).size = s.length := by show s.toArray.size = _; simp
         omega
theorem itemF_sz (hL : LOk L T fin) {ax : Bs → Option Rl} (hax : ∀ s r, ax s = some r → RlSz r) {x y : PS} {r : Rl} {n : Nat} (h : itemF T fin ax x = .ok ((some r, n), y)) : RlSz r := by
 unfold itemF at h
 split at h
 ·
  split at h
  ·
   cases h
  ·
   rename_i s y1 h1
   split at h
   ·
    cases h
   ·
    rename_i z h2
    injection h with h; injection h with h _; injection h with h _
    exact hax _ _ h
 ·
  split at h
  ·
   cases h
  ·
   rename_i y1 h1
   split at h
   ·
    cases h
   ·
    rename_i r2 z h2
    injection h with h; injection h with h _; injection h with h _; injection h with h; subst h
    exact ruleF_sz hL h2
theorem bindE_err {α β : Type} {r : Except Er α} {g : α → Except Er β} (hr : ∀ e, r = .error e → e.1 ≠ 0) (hg : ∀ v e, g v = .error e → e.1 ≠ 0) {e : Er} (h : bindE r g = .error e) : e.1 ≠ 0 := by
 unfold bindE at h
 cases r with
 | error e2 => injection h with h; subst h; exact hr _ rfl
 | ok v => exact hg _ _ h
theorem ruleF_err {x : PS} {e : Er} (h : ruleF T fin x = .error e) : e.1 ≠ 0 := by
 rw [ruleF_eq] at h
 refine bindE_err (fun e => wrdF_err) (fun v e h => ?_) h
 refine bindE_err (fun e => expF_err) (fun v e h => ?_) h
 refine bindE_err (fun e => termF_err _ _ e) (fun v e h => ?_) h
 refine bindE_err (fun e => expF_err) (fun v e h => ?_) h
 refine bindE_err (fun e => termF_err _ _ e) (fun v e h => ?_) h
 refine bindE_err (fun e => ifF_err) (fun v e h => ?_) h
 exact bindE_err (fun e => expF_err) (fun v e h => by cases h) h
theorem itemF_err {ax : Bs → Option Rl} {x : PS} {e : Er} (h : itemF T fin ax x = .error e) : e.1 ≠ 0 := by
 unfold itemF at h
 split at h
 ·
  split at h
  ·
   rename_i e' he; injection h with h; subst h; exact wrdF_err he
  ·
   split at h
   ·
    rename_i e' he; injection h with h; subst h; exact expF_err he
   ·
    cases h
 ·
  split at h
  ·
   rename_i e' he; injection h with h; subst h; exact expF_err he
  ·
   split at h
   ·
    rename_i e' he; injection h with h; subst h
    exact ruleF_err he
   ·
    cases h
end
def LpR (T : List (Bs × Nat)) (fin : Nat) (ax : Bs → Option Rl) (n : Nat) (R : Except Er (List Rl)) (y : St) (Q : List Rl) (fu : Nat) : Prop :=
 (y.why = 0 → T.length < fu + y.i ∧ Q.length ≤ 160 ∧ loopF T fin ax n fu (psOf y) Q = R) ∧ (y.why ≠ 0 → R = .error (y.why, y.ea))
section
variable {T : List (Bs × Nat)} {fin : Nat} {ax : Bs → Option Rl} {n : Nat} {R : Except Er (List Rl)} {y y' : St} {Q : List Rl} {fu : Nat}
theorem LpR.exit (h : LpR T fin ax n R y Q fu) (hg : y.i ≤ T.length) (hD : (y.why == 0 && decide (offF T fin y.i < n)) = false) : (y.why = 0 → R = .ok Q) ∧ (y.why ≠ 0 → R = .error (y.why, y.ea)) := by
 refine ⟨fun h0 => ?_, h.2⟩
 obtain ⟨h1, _, h2⟩ := h.1 h0
 have hd : ¬ offF T fin y.i < n := by simpa [h0] using hD
 match fu with
 | 0 => omega
 | f + 1 =>
  unfold loopF at h2
  rw [show (psOf y).i = y.i from rfl, if_neg hd] at h2
  exact h2.symm
def RndR (T : List (Bs × Nat)) (fin : Nat) (ax : Bs → Option Rl) (n : Nat) (R : Except Er (List Rl)) (y : St) (Q : List Rl) (fu : Nat) (rl : Rl) (tp : Nat) (b : Bool) : Prop :=
 (y.why ≠ 0 → R = .error (y.why, y.ea)) ∧ (y.why = 0 → Q.length ≤ 160 ∧ (b = false → R = .error (3, tp)) ∧ (b = true → RlSz rl ∧ (implF rl = false → R = .error (1, tp)) ∧ (implF rl = true →
  (Q.any (fun q => decide (q.name = rl.name)) = true → R = .error (4, tp)) ∧ (Q.any (fun q => decide (q.name = rl.name)) = false → (Q.length = 160 → R = .error (6, tp)) ∧ (Q.length ≠ 160 → LpR T fin ax n R y (Q ++ [rl]) fu)))))
theorem LpR.item {L : List Tok} (hL : LOk L T fin) (hax : ∀ s r, ax s = some r → RlSz r) (h : LpR T fin ax n R y Q fu) (hg : y.i ≤ T.length) (h0 : y.why = 0) (hD : offF T fin y.i < n) {rl : Rl} {tp : Nat} {b : Bool}
  (hr : ResS y y' (itemF T fin ax (psOf y)) (fun v => v.2 = tp ∧ (b = true → v.1 = some rl) ∧ (b = false → v.1 = none))) : 0 < fu ∧ RndR T fin ax n R y' Q (fu - 1) rl tp b := by
 obtain ⟨h1, hq, h2⟩ := h.1 h0
 have h3 := hr.1 h0
 match fu with
 | 0 => omega
 | f + 1 =>
  refine ⟨by omega, ?_⟩
  rw [show f + 1 - 1 = f from rfl]
  unfold loopF at h2
  rw [show (psOf y).i = y.i from rfl, if_pos hD] at h2
  cases hi : itemF T fin ax (psOf y) with
  | error e =>
   rw [hi] at h2 h3
   have hn := itemF_err hi
   refine ⟨fun _ => ?_, fun q => absurd (h3.1 ▸ q) hn⟩
   rw [h3.1, h3.2]
   exact h2.symm
  | ok v =>
   obtain ⟨⟨o, pos⟩, s⟩ := v
   rw [hi] at h2 h3
   obtain ⟨k0, rfl, rfl, k3, k4⟩ := h3
   have him := itemF_i hi
   refine ⟨fun q => absurd k0 q, fun _ => ⟨hq, fun hb => ?_, fun hb => ?_⟩⟩
   ·
    have e := k4 hb
    dsimp only at e
    subst e
    exact h2.symm
   ·
    have e := k3 hb
    dsimp only at e
    subst e
    dsimp only at h2
    refine ⟨itemF_sz hL hax hi, fun hv => ?_, fun hv => ⟨fun hm => ?_, fun hm => ⟨fun hl => ?_, fun hl => ?_⟩⟩⟩
    ·
     rw [if_pos hv] at h2; exact h2.symm
    ·
     rw [if_neg (by simp [hv]), if_pos hm] at h2; exact h2.symm
    ·
     rw [if_neg (by simp [hv]), if_neg (by simp [hm]), if_pos hl] at h2; exact h2.symm
    ·
     rw [if_neg (by simp [hv]), if_neg (by simp [hm]), if_neg hl] at h2
     refine ⟨fun _ => ⟨?_, by rw [List.length_append, List.length_singleton]; omega, h2⟩, fun q => absurd k0 q⟩
     have : y.i + 1 ≤ y'.i := him
     omega
theorem RndR.err {k : Int} {tp : Nat} (h : y.why = 0) (hk : k ≠ 0) (hR : R = .error (k, (tp : Int))) {Q' : List Rl} : LpR T fin ax n R (y.fail k tp) Q' fu := by
 rw [fail_zero h]
 exact ⟨fun q => absurd q hk, fun _ => hR⟩
end
end Go.Proofs.Ytblkgjdhaibhgaa
namespace Go.Proofs.Ytblkgjdhaibhgaa
open Go.RowKit
theorem results_tmp_cell {P : Program} {fn : Func} {p u : Tmp} {ty : TypeId} (h : fn.results = #[.tmp u, .cell p ty]) (tmps : Array Value) (w : World) (g : Nat) (t : TypeId) (cs : Array Value) (fr : Nat × Nat) (d : TypeDesc)
  (hp : tmps.getD p undef = .pointer (some ⟨g, 0, none⟩)) (hg : w.heap[g]? = some (.cells cs t fr))
  (hu : P.underlying ty = some d) (hd : (match d with | .struct _ | .array _ _ => true | _ => false) = true) (hi : (P.info? ty).map (·.size) = some cs.size) :
  (results fn tmps).run P w = .ok (.tuple #[tmps.getD u undef, .agg cs]) w := by
 have hp' : tmps[p]?.getD undef = .pointer (some ⟨g, 0, none⟩) := by simpa using hp
 simp [results, h, hp', asAddr, run_loadVar_row w g t ty cs fr d hg hu hd hi, Result.andThen]
theorem zeroBoolP (w : World) : (zeroValue 4).run Try.prog w = .ok (.bool false) w := by
 have h : (Try.prog.info? 4).bind (·.zero) = some (.bool false) := by kernel_rfl
 cases hi : Try.prog.info? 4 with
 | none => rw [hi] at h; cases h
 | some i => rw [hi] at h; simp at h; simp [zeroValue, typeInfo, hi, h]
def setE2 (w : World) (g : Nat) (a b : Value) : World := (w.setCell ⟨g, 0, none⟩ a).setCell ⟨g, 1, none⟩ b
theorem setE2_eq (w : World) (g : Nat) (a b : Value) : (w.setCell ⟨g, 0, none⟩ a).setCell ⟨g, 1, none⟩ b = setE2 w g a b := rfl
theorem setE2_blk {w : World} {g : Nat} {t : TypeId} {x0 x1 : Value} (h : Blk w g t #[x0, x1]) (a b : Value) : Blk (setE2 w g a b) g t #[a, b] := by
 unfold setE2
 simpa using (h.set_ 0 a).set_ 1 b
theorem setE2_upd (w : World) (g : Nat) (a b : Value) : Upd (· = g) w (setE2 w g a b) :=
 (updCell w g 0 a).trans (updCell _ g 1 b) (fun _ _ h => h)
def ParseP (r : Except Er (List Rl)) (w : World) (e : Ending) (w' : World) : Prop :=
 Upd Non w w' ∧ ((∃ er, r = .error er ∧ e = .returned (.tuple #[.slice none 0 0, .agg #[.int .i64 er.1, .int .i64 er.2]])) ∨
  (∃ (Q : List Rl) (A : Option Addr) (c : Nat), r = .ok Q ∧ e = .returned (.tuple #[.slice A Q.length c, .agg #[.int .i64 0, .int .i64 0]]) ∧ RlsV w' (fun k => w.heap.size ≤ k) A Q ∧ Q.length ≤ c))
structure PaS (w0 w : World) (p mb : Nat) (A : Option Addr) (c : Nat) (L : List Tok) (y : St) (OA : Option Addr) (oc : Nat) (Q : List Rl) : Prop where
 rd : RdS w p A c L y
 er : Blk w w0.heap.size 25 #[.int .i64 0, .int .i64 0]
 out : RlO w (fun k => w0.heap.size < k ∧ ¬ y.own p k ∧ k ≠ mb) OA Q.length oc Q
 map : SMap w mb (nmV Q)
 own : ∀ k, y.own p k → p ≤ k ∧ k ≠ mb
 oat : ∀ k, At OA k → mb < k
 lt : w0.heap.size < p ∧ p < mb
 upd : Upd Non w0 w
section
variable {w0 w w' : World} {p mb : Nat} {A : Option Addr} {c : Nat} {L : List Tok} {y y' : St} {OA : Option Addr} {oc : Nat} {Q : List Rl}
theorem RdS.own_ne2 {n : Nat} {cs : List Value} (h : RdS w p A c L y) (o : Own w 33 14 OA n oc cs) : ∀ k, At OA k → ¬ y.own p k := fun k hk q => by
 rcases q with rfl | q | q
 ·
  exact o.ne_blk h.blk (by decide) hk
 ·
  exact o.ne_type h.v (by decide) hk q
 ·
  exact o.ne_type h.m (by decide) hk q
theorem PaS.call (h : PaS w0 w p mb A c L y OA oc Q) (hr : RdS w' p A c L y') (ho : ∀ k, y'.own p k → y.own p k ∨ w.heap.size ≤ k) (u : Upd (y.own p) w w') : PaS w0 w' p mb A c L y' OA oc Q := by
 obtain ⟨_, cs, hown, _⟩ := id h.out
 have hne := h.rd.own_ne2 hown
 have hmb := h.map.lt
 have hlt := h.lt
 refine ⟨hr, h.er.upd u (fun q => by have := (h.own _ q).1; omega), ?_, h.map.upd u (fun q => (h.own _ q).2 rfl), fun k q => ?_, h.oat, h.lt, h.upd.trans u (fun k hk q => by have := (h.own _ q).1; omega)⟩
 ·
  have g1 : RlO w (fun k => (w0.heap.size < k ∧ ¬ y.own p k ∧ k ≠ mb) ∧ k < w.heap.size) OA Q.length oc Q := h.out.mono (fun k hk q => ⟨q, hk⟩)
  refine (g1.upd u hne (fun k _ q => q.1.2.1)).mono (fun k _ q => ⟨q.1.1, fun r => ?_, q.1.2.2⟩)
  rcases ho k r with r | r
  ·
   exact q.1.2.1 r
  ·
   exact Nat.lt_irrefl _ (Nat.lt_of_lt_of_le q.2 r)
 ·
  rcases ho k q with r | r
  ·
   exact h.own k r
  ·
   exact ⟨by omega, by omega⟩
theorem PaS.non (h : PaS w0 w p mb A c L y OA oc Q) (u : Upd Non w w') : PaS w0 w' p mb A c L y OA oc Q :=
 h.call (h.rd.non u) (fun _ q => .inl q) (u.mono (fun _ _ f => f.elim))
theorem PaS.app (h : PaS w0 w p mb A c L y OA oc Q) {rl : Rl} {a : RlA} {m : Nat} (hk : RlK w (fun k => m ≤ k ∧ ¬ y.own p k) rl a) (hm : mb < m) (hA : ∀ k, At OA k → k < m) {cs : List Value} (hc : RsCells w (fun k => (w0.heap.size < k ∧ ¬ y.own p k ∧ k ≠ mb) ∧ ¬ At OA k) cs Q) {w2 w3 w4 : World} (hs : SMap w2 mb (nmV (Q ++ [rl]))) (u1 : Upd (· = mb) w w2) (u2 : Upd Non w2 w3) {OB : Option Addr} {ob : Nat} (ho : Own w4 33 14 OB (Q.length + 1) ob (cs ++ (rlCells rl a).toList)) (u3 : Upd (At OA) w3 w4) (hat : ∀ k, At OB k → At OA k ∨ k = w3.heap.size) : PaS w0 w4 p mb A c L y OB ob (Q ++ [rl]) := by
 obtain ⟨hn, cs0, hown, _⟩ := id h.out
 have hne := h.rd.own_ne2 hown
 have hlt := h.lt
 have hmb := h.map.lt
 have s1 := u1.size
 have s2 := u2.size
 have uu : Upd (fun k => k = mb ∨ At OA k) w w4 := ((u1.mono (fun _ _ q => .inl q)).trans (u2.mono (fun _ _ f => f.elim)) (fun _ _ q => q)).trans (u3.mono (fun _ _ q => .inr q)) (fun _ _ q => q)
 have hE : ∀ k, At OA k → k ≠ w0.heap.size := fun k q => by have := h.oat k q; omega
 refine ⟨h.rd.upd uu (fun k hk q => ?_), h.er.upd uu (fun q => ?_), ?_, ?_, h.own, fun k q => ?_, h.lt, h.upd.trans uu (fun k hk q => ?_)⟩
 ·
  rcases q with q | q
  ·
   subst q
   exact ⟨hlt.2, fun r => (h.own _ (.inr (.inl r))).2 rfl, fun r => (h.own _ (.inr (.inr r))).2 rfl⟩
  ·
   exact ⟨by have := h.oat k q; omega, fun r => hne k q (.inr (.inl r)), fun r => hne k q (.inr (.inr r))⟩
 ·
  rcases q with q | q
  ·
   omega
  ·
   exact hE _ q rfl
 ·
  have hc3 : RsCells w3 (fun k => (w0.heap.size < k ∧ ¬ y.own p k ∧ k ≠ mb) ∧ ¬ At OA k) cs Q := (hc.mono u1 (fun k _ q => q.1.2.2) (fun _ _ q => q)).mono u2 (fun _ _ _ f => f) (fun _ _ q => q)
  have hk3 : RlK w3 (fun k => (w0.heap.size < k ∧ ¬ y.own p k ∧ k ≠ mb) ∧ ¬ At OA k) rl a := by
   have := (hk.upd u1 (fun k _ q e => by have := q.1; omega)).upd u2 (fun _ _ _ f => f)
   refine this.mono (fun k _ q => ⟨⟨by have := q.1; omega, q.2, by have := q.1; omega⟩, fun r => by have := hA k r; have := q.1; omega⟩)
  have := RlO.snoc (G' := fun k => w0.heap.size < k ∧ ¬ y.own p k ∧ k ≠ mb) rfl hc3 hk3 ho u3 hat (fun _ _ q => q)
  rw [List.length_append, List.length_singleton]
  exact this
 ·
  exact (hs.upd u2 (fun f => f)).upd u3 (fun q => by have := h.oat _ q; omega)
 ·
  rcases hat k q with r | r
  ·
   exact h.oat k r
  ·
   omega
 ·
  rcases q with q | q
  ·
   omega
  ·
   have := h.oat k q; omega
theorem PaS.res (h : PaS w0 w p mb A c L y OA oc Q) (a b : Value) : Blk (setE2 w w0.heap.size a b) w0.heap.size 25 #[a, b] ∧ Upd Non w0 (setE2 w w0.heap.size a b) ∧ Blk (setE2 w w0.heap.size a b) p 57 (rcells A L.length c y) ∧ RlsV (setE2 w w0.heap.size a b) (fun k => w0.heap.size ≤ k) OA Q := by
 have u := setE2_upd w w0.heap.size a b
 have hlt := h.lt
 refine ⟨setE2_blk h.er a b, h.upd.trans u (fun k hk e => by omega), h.rd.blk.upd u (by omega), ?_⟩
 ·
  have hv : RlsV w (fun k => w0.heap.size < k) OA Q := h.out.view (fun k q => by have := h.oat k q; omega) (fun k _ q => q.1)
  exact (hv.upd u (fun k _ q e => by omega)).mono (fun k _ q => Nat.le_of_lt q)
theorem PaS.fin (h : PaS w0 w p mb A c L y OA oc Q) : RlsV w (fun k => w0.heap.size ≤ k) OA Q ∧ Q.length ≤ oc :=
 ⟨h.out.view (fun k q => by have := h.oat k q; have := h.lt; omega) (fun k _ q => Nat.le_of_lt q.1), h.out.le⟩
end
end Go.Proofs.Ytblkgjdhaibhgaa
namespace Go.Proofs.Ytblkgjdhaibhgaa
open Go.RowKit
def Emb (T1 T : List (Bs × Nat)) (k : Nat) : Prop := ∀ j, j < T1.length → tkF T (k + j) = tkF T1 j
def sh (k : Nat) (x : PS) : PS := ⟨k + x.i, x.vs, x.ms⟩
section
variable {T1 T : List (Bs × Nat)} {fin fin' k : Nat}
theorem Emb.som (h : Emb T1 T k) {i : Nat} {s : Bs} (hi : tkF T1 i = some s) : tkF T (k + i) = some s := by rw [h i (tkF_lt hi), hi]
theorem Emb.no (h : Emb T1 T k) {i : Nat} {s : Bs} (hi : i < T1.length) (hn : ¬ tkF T1 i = some s) : ¬ tkF T (k + i) = some s := by rw [h i hi]; exact hn
theorem wrd_loc {α : Type} (h : Emb T1 T k) {f : Bs → PS → Option (α × PS)} (hf : ∀ s x a y, f s x = some (a, y) → ∃ y', f s (sh k x) = some (a, y') ∧ y'.vs = y.vs ∧ y'.ms = y.ms) {x y : PS} {a : α} (hr : wrdF T1 fin f x = .ok (a, y)) : wrdF T fin' f (sh k x) = .ok (a, sh k y) ∧ ∃ s, tkF T1 x.i = some s := by
 unfold wrdF at hr
 split at hr
 ·
  rename_i s hs
  refine ⟨?_, s, hs⟩
  split at hr
  ·
   cases hr
  ·
   rename_i hp
   split at hr
   ·
    rename_i a' y' hf'
    injection hr with hr
    injection hr with h1 h2
    subst h1 h2
    obtain ⟨y2, g1, g2, g3⟩ := hf _ _ _ _ hf'
    unfold wrdF
    rw [show (sh k x).i = k + x.i from rfl, h.som hs]
    dsimp only
    rw [if_neg hp, g1]
    dsimp only
    rw [g2, g3]
    rfl
   ·
    cases hr
 ·
  cases hr
theorem exp_loc (h : Emb T1 T k) {s : Bs} {x y : PS} (hr : expF T1 fin s x = .ok y) : expF T fin' s (sh k x) = .ok (sh k y) ∧ tkF T1 x.i = some s := by
 unfold expF at hr
 split at hr
 ·
  rename_i hs
  injection hr with hr
  subst hr
  refine ⟨?_, hs⟩
  unfold expF
  rw [show (sh k x).i = k + x.i from rfl, if_pos (h.som hs)]
  rfl
 ·
  cases hr
theorem atom_sh {left : Bool} : ∀ s x a y, atomF left s x = some (a, y) → ∃ y', atomF left s (sh k x) = some (a, y') ∧ y'.vs = y.vs ∧ y'.ms = y.ms := by
 intro s x a y h
 unfold atomF at h ⊢
 split at h
 ·
  injection h with h; injection h with h1 h2; subst h1 h2; exact ⟨_, rfl, rfl, rfl⟩
 ·
  rw [show (sh k x).vs = x.vs from rfl, show (sh k x).ms = x.ms from rfl]
  split at h
  ·
   rename_i h3; injection h with h; injection h with h1 h2; subst h1 h2; rw [if_pos h3]; exact ⟨_, rfl, rfl, rfl⟩
  ·
   rename_i h3
   rw [if_neg h3]
   split at h
   ·
    rename_i h4; injection h with h; injection h with h1 h2; subst h1 h2; rw [if_pos h4]; exact ⟨_, rfl, rfl, rfl⟩
   ·
    cases h
theorem oper_sh {left : Bool} : ∀ s x a y, operF left s x = some (a, y) → ∃ y', operF left s (sh k x) = some (a, y') ∧ y'.vs = y.vs ∧ y'.ms = y.ms := by
 intro s x a y h
 unfold operF at h ⊢
 dsimp only at h ⊢
 rw [show (sh k x).ms = x.ms from rfl]
 split at h
 ·
  cases h
 ·
  split at h
  ·
   cases h
  ·
   rename_i h1
   rw [if_neg h1]
   split at h
   ·
    rename_i h2; injection h with h; injection h with h3 h4; subst h3 h4; rw [if_pos h2]; exact ⟨_, rfl, rfl, rfl⟩
   ·
    rename_i h2
    rw [if_neg h2]
    split at h
    ·
     injection h with h; injection h with h3 h4; subst h3 h4; exact ⟨_, rfl, rfl, rfl⟩
    ·
     split at h
     ·
      split at h
      ·
       rename_i h3; injection h with h; injection h with h4 h5; subst h4 h5; rw [if_pos h3]; exact ⟨_, rfl, rfl, rfl⟩
      ·
       cases h
     ·
      cases h
theorem kids_loc {g g' : PS → Except Er (Pt × PS)} (hg : ∀ x y q, g x = .ok (q, y) → g' (sh k x) = .ok (q, sh k y)) : ∀ {n : Nat} {x y : PS} {l : List Pt}, kidsF g n x = .ok (l, y) → kidsF g' n (sh k x) = .ok (l, sh k y)
 | 0, x, y, l, h => by simp only [kidsF] at h ⊢; injection h with h; injection h with h1 h; subst h h1; rfl
 | n + 1, x, y, l, h => by
  rw [kidsF] at h ⊢
  split at h
  ·
   cases h
  ·
   rename_i q z hq
   rw [hg _ _ _ hq]
   dsimp only
   split at h
   ·
    cases h
   ·
    rename_i l2 z2 hk
    rw [kids_loc hg hk]
    injection h with h; injection h with h1 h; subst h h1; rfl
theorem term_loc (h : Emb T1 T k) {left : Bool} : ∀ (f : Nat) (x y : PS) (q : Pt), termF T1 fin left f x = .ok (q, y) → ∀ f', f ≤ f' → termF T fin' left f' (sh k x) = .ok (q, sh k y)
 | 0, x, y, q, hr, _, _ => by unfold termF at hr; cases hr
 | f + 1, x, y, q, hr, f', hf => by
  obtain ⟨f2, rfl⟩ : ∃ f2, f' = f2 + 1 := ⟨f' - 1, by omega⟩
  rw [termF_succ] at hr ⊢
  rw [show (sh k x).i = k + x.i from rfl]
  split at hr
  ·
   rename_i ht
   rw [if_pos (h.som ht)]
   unfold appF at hr ⊢
   split at hr
   ·
    cases hr
   ·
    rename_i p1 y1 h1
    have e1 := (wrd_loc (fin' := fin') h oper_sh h1).1
    rw [show ({ sh k x with i := k + x.i + 1 } : PS) = sh k { x with i := x.i + 1 } from rfl, e1]
    dsimp only
    split at hr
    ·
     cases hr
    ·
     rename_i l z h2
     rw [kids_loc (fun x y q hq => term_loc h f x y q hq f2 (by omega)) h2]
     dsimp only
     split at hr
     ·
      cases hr
     ·
      rename_i u h3
      rw [(exp_loc (fin' := fin') h h3).1]
      injection hr with hr; injection hr with h4 hr; subst hr h4; rfl
  ·
   rename_i ht
   obtain ⟨e1, s, hs⟩ := wrd_loc (fin' := fin') h atom_sh hr
   rw [if_neg (h.no (tkF_lt hs) ht)]
   exact e1
theorem pvar_loc (h : Emb T1 T k) {x y : PS} {n : Nat} (hr : pvarF T1 fin x = .ok (n, y)) : pvarF T fin' (sh k x) = .ok (n, sh k y) := by
 unfold pvarF at hr ⊢
 refine (wrd_loc h (fun s x a y hf => ?_) hr).1
 rw [show (sh k x).vs = x.vs from rfl]
 split at hf
 ·
  rename_i h1; injection hf with hf; injection hf with h2 h3; subst h2 h3; rw [if_pos h1]; exact ⟨_, rfl, rfl, rfl⟩
 ·
  cases hf
theorem ivar_loc (h : Emb T1 T k) {x y : PS} {n : Nat} (hr : ivarF T1 fin x = .ok (n, y)) : ivarF T fin' (sh k x) = .ok (n, sh k y) := by
 unfold ivarF at hr ⊢
 refine (wrd_loc h (fun s x a y hf => ?_) hr).1
 rw [show (sh k x).ms = x.ms from rfl]
 split at hf
 ·
  split at hf
  ·
   rename_i h1; injection hf with hf; injection hf with h2 h3; subst h2 h3; rw [if_pos h1]; exact ⟨_, rfl, rfl, rfl⟩
  ·
   cases hf
 ·
  cases hf
theorem numb_loc (h : Emb T1 T k) {x y : PS} {n : Int} (hr : numbF T1 fin x = .ok (n, y)) : numbF T fin' (sh k x) = .ok (n, sh k y) := by
 unfold numbF at hr ⊢
 refine (wrd_loc h (fun s x a y hf => ?_) hr).1
 cases hd : decF s with
 | none => rw [hd] at hf; cases hf
 | some m => rw [hd] at hf; injection hf with hf; injection hf with h2 h3; subst h2 h3; exact ⟨_, rfl, rfl, rfl⟩
theorem kind_loc (h : Emb T1 T k) {x y : PS} {n : Nat} (hr : kindF T1 fin x = .ok (n, y)) : kindF T fin' (sh k x) = .ok (n, sh k y) := by
 unfold kindF at hr ⊢
 refine (wrd_loc h (fun s x a y hf => ?_) hr).1
 cases hd : findL condL s 0 with
 | none => rw [hd] at hf; cases hf
 | some m => rw [hd] at hf; injection hf with hf; injection hf with h2 h3; subst h2 h3; exact ⟨_, rfl, rfl, rfl⟩
theorem any_loc (h : Emb T1 T k) {x y : PS} {s : Bs} (hr : anyF T1 fin x = .ok (s, y)) : anyF T fin' (sh k x) = .ok (s, sh k y) := by
 unfold anyF at hr ⊢
 refine (wrd_loc h (fun s x a y hf => ?_) hr).1
 injection hf with hf; injection hf with h2 h3; subst h2 h3; exact ⟨_, rfl, rfl, rfl⟩
theorem pcond_loc (h : Emb T1 T k) {x y : PS} {c : Cd} (hr : pcondF T1 fin x = .ok (c, y)) : pcondF T fin' (sh k x) = .ok (c, sh k y) := by
 unfold pcondF at hr ⊢
 split at hr
 ·
  cases hr
 ·
  rename_i kk y1 h1
  rw [kind_loc (fin' := fin') h h1]
  dsimp only
  split at hr
  ·
   cases hr
  ·
   rename_i a z h2
   have e2 : (if kk = 6 then ivarF T fin' (sh k y1) else pvarF T fin' (sh k y1)) = .ok (a, sh k z) := by
    split at h2
    ·
     rename_i q; rw [if_pos q]; exact ivar_loc h h2
    ·
     rename_i q; rw [if_neg q]; exact pvar_loc h h2
   rw [e2]
   dsimp only
   split at hr
   ·
    rename_i q; rw [if_pos q]; injection hr with hr; injection hr with h3 h4; subst h3 h4; rfl
   ·
    rename_i q
    rw [if_neg q]
    split at hr
    ·
     rename_i q; rw [if_pos q]
     split at hr
     ·
      cases hr
     ·
      rename_i n u h3
      rw [numb_loc (fin' := fin') h h3]
      injection hr with hr; injection hr with h4 h5; subst h4 h5; rfl
    ·
     rename_i q; rw [if_neg q]
     split at hr
     ·
      rename_i q; rw [if_pos q]
      split at hr
      ·
       cases hr
      ·
       rename_i n u h3
       rw [pvar_loc (fin' := fin') h h3]
       injection hr with hr; injection hr with h4 h5; subst h4 h5; rfl
     ·
      rename_i q; rw [if_neg q]
      split at hr
      ·
       cases hr
      ·
       rename_i n u h3
       rw [ivar_loc (fin' := fin') h h3]
       injection hr with hr; injection hr with h4 h5; subst h4 h5; rfl
theorem conds_loc (h : Emb T1 T k) : ∀ (f : Nat) (x y : PS) (l : List Cd), condsF T1 fin f x = .ok (l, y) → y.i < T1.length → T1.length < f + x.i → ∀ f', T.length < f' + (k + x.i) → condsF T fin' f' (sh k x) = .ok (l, sh k y)
 | 0, x, y, l, hr, hy, hf, f', hf' => by unfold condsF at hr; injection hr with hr; injection hr with _ hr; subst hr; omega
 | f + 1, x, y, l, hr, hy, hf, f', hf' => by
  rw [condsF_succ] at hr
  split at hr
  ·
   rename_i ht
   have hT := tkF_lt (h.som ht)
   obtain ⟨f2, rfl⟩ : ∃ f2, f' = f2 + 1 := ⟨f' - 1, by omega⟩
   rw [condsF_succ, show (sh k x).i = k + x.i from rfl, if_pos (h.som ht)]
   split at hr
   ·
    cases hr
   ·
    rename_i c y1 h1
    have e1 := pcond_loc (fin' := fin') h h1
    have hi : x.i + 1 ≤ y1.i := pcondF_i h1
    rw [show ({ sh k x with i := k + x.i + 1 } : PS) = sh k { x with i := x.i + 1 } from rfl, e1]
    dsimp only
    split at hr
    ·
     cases hr
    ·
     rename_i l2 z h2
     injection hr with hr; injection hr with h3 h4; subst h3 h4
     rw [conds_loc h f y1 z l2 h2 hy (by omega) f2 (by omega)]
  ·
   rename_i ht
   injection hr with hr; injection hr with h3 h4; subst h3 h4
   have hn := h.no hy ht
   cases f' with
   | zero => rfl
   | succ f2 => rw [condsF_succ, show (sh k x).i = k + x.i from rfl, if_neg hn]
theorem if_loc (h : Emb T1 T k) {x y : PS} {l : List Cd} (hr : ifF T1 fin (T1.length + 1) x = .ok (l, y)) (hy : y.i < T1.length) : ifF T fin' (T.length + 1) (sh k x) = .ok (l, sh k y) := by
 unfold ifF at hr ⊢
 rw [show (sh k x).i = k + x.i from rfl]
 split at hr
 ·
  rename_i ht
  rw [if_pos (h.som ht)]
  split at hr
  ·
   cases hr
  ·
   rename_i c y1 h1
   have e1 := pcond_loc (fin' := fin') h h1
   rw [show ({ sh k x with i := k + x.i + 1 } : PS) = sh k { x with i := x.i + 1 } from rfl, e1]
   dsimp only
   split at hr
   ·
    cases hr
   ·
    rename_i l2 z h2
    injection hr with hr; injection hr with h3 h4; subst h3 h4
    rw [conds_loc h _ y1 z l2 h2 hy (by omega) _ (by omega)]
 ·
  rename_i ht
  injection hr with hr; injection hr with h3 h4; subst h3 h4
  rw [if_neg (h.no hy ht)]
theorem Emb.len (h : Emb T1 T k) (h0 : 0 < T1.length) : k + T1.length ≤ T.length := by
 have hs : tkF T1 (T1.length - 1) = some (T1[T1.length - 1]'(by omega)).1 := by unfold tkF; rw [List.getElem?_eq_getElem (by omega)]; rfl
 have := tkF_lt (h.som hs)
 omega
theorem rule_loc (h : Emb T1 T k) {x y : PS} {r : Rl} (hr : ruleF T1 fin x = .ok (r, y)) : ruleF T fin' (sh k x) = .ok (r, sh k y) := by
 unfold ruleF at hr ⊢
 split at hr
 ·
  cases hr
 ·
  rename_i s x1 h1
  have e1 := any_loc (fin' := fin') h h1
  rw [show ({ sh k x with vs := [], ms := [] } : PS) = sh k { x with vs := [], ms := [] } from rfl, e1]
  dsimp only
  split at hr
  ·
   cases hr
  ·
   rename_i x2 h2
   have e2 := (exp_loc (fin' := fin') h h2).1
   have hlen := h.len (by have := tkF_lt (exp_loc (fin' := fin') h h2).2; omega)
   rw [e2]
   dsimp only
   split at hr
   ·
    cases hr
   ·
    rename_i l x3 h3
    rw [term_loc h _ _ _ _ h3 (T.length + 1) (by omega)]
    dsimp only
    split at hr
    ·
     cases hr
    ·
     rename_i x4 h4
     rw [(exp_loc (fin' := fin') h h4).1]
     dsimp only
     split at hr
     ·
      cases hr
     ·
      rename_i r5 x5 h5
      rw [term_loc h _ _ _ _ h5 (T.length + 1) (by omega)]
      dsimp only
      split at hr
      ·
       cases hr
      ·
       rename_i cs x6 h6
       split at hr
       ·
        cases hr
       ·
        rename_i x7 h7
        obtain ⟨e7, ht⟩ := exp_loc (fin' := fin') h h7
        rw [if_loc h h6 (tkF_lt ht)]
        dsimp only
        rw [e7]
        injection hr with hr; injection hr with h8 h9; subst h8 h9; rfl
theorem item_loc (h : Emb T1 T k) {ax : Bs → Option Rl} {x y : PS} {o : Option Rl} {n : Nat} (hr : itemF T1 fin ax x = .ok ((o, n), y)) : ∃ n', itemF T fin' ax (sh k x) = .ok ((o, n'), sh k y) := by
 unfold itemF at hr ⊢
 rw [show (sh k x).i = k + x.i from rfl]
 split at hr
 ·
  rename_i ht
  rw [if_pos (h.som ht)]
  split at hr
  ·
   cases hr
  ·
   rename_i s y1 h1
   have e1 := any_loc (fin' := fin') h h1
   rw [show ({ sh k x with i := k + x.i + 1 } : PS) = sh k { x with i := x.i + 1 } from rfl, e1]
   dsimp only
   split at hr
   ·
    cases hr
   ·
    rename_i z h2
    rw [(exp_loc (fin' := fin') h h2).1]
    injection hr with hr; injection hr with h3 h4; injection h3 with h3 _; subst h3 h4
    exact ⟨_, rfl⟩
 ·
  rename_i ht
  split at hr
  ·
   cases hr
  ·
   rename_i y1 h1
   obtain ⟨e1, hs⟩ := exp_loc (fin' := fin') h h1
   rw [if_neg (h.no (tkF_lt hs) ht), e1]
   dsimp only
   split at hr
   ·
    cases hr
   ·
    rename_i r z h2
    rw [rule_loc h h2]
    injection hr with hr; injection hr with h3 h4; injection h3 with h3 _; subst h3 h4
    exact ⟨_, rfl⟩
end
end Go.Proofs.Ytblkgjdhaibhgaa
namespace Go.Proofs.Ytblkgjdhaibhgaa
open Go.RowKit
def ItemOk (ax : Bs → Option Rl) (ws : List Bs) (r : Rl) : Prop := ws ≠ [] ∧ ∃ n y, itemF (ws.map fun s => (s, 0)) 0 ax ⟨0, [], []⟩ = .ok ((some r, n), y) ∧ y.i = ws.length
section
variable {T : List (Bs × Nat)} {fin n : Nat} {ax : Bs → Option Rl}
theorem any_vs {i : Nat} {vs ms vs' ms' : Bs} {s : Bs} {y : PS} (h : anyF T fin ⟨i, vs, ms⟩ = .ok (s, y)) : anyF T fin ⟨i, vs', ms'⟩ = .ok (s, ⟨y.i, vs', ms'⟩) := by
 unfold anyF wrdF at h ⊢
 dsimp only at h ⊢
 split at h
 ·
  split at h
  ·
   cases h
  ·
   rename_i hp
   injection h with h; injection h with h1 h2; subst h1 h2
   rw [if_neg hp]
 ·
  cases h
theorem exp_vs {i : Nat} {vs ms vs' ms' : Bs} {s : Bs} {y : PS} (h : expF T fin s ⟨i, vs, ms⟩ = .ok y) : expF T fin s ⟨i, vs', ms'⟩ = .ok ⟨y.i, vs', ms'⟩ := by
 unfold expF at h ⊢
 dsimp only at h ⊢
 split at h
 ·
  rename_i ht; injection h with h; subst h; rw [if_pos ht]
 ·
  cases h
theorem rule_vs {i : Nat} {vs ms vs' ms' : Bs} : ruleF T fin ⟨i, vs, ms⟩ = ruleF T fin ⟨i, vs', ms'⟩ := by rw [ruleF_eq, ruleF_eq]
theorem item_vs {i : Nat} {vs ms vs' ms' : Bs} {o : Option Rl} {m : Nat} {y : PS} (h : itemF T fin ax ⟨i, vs, ms⟩ = .ok ((o, m), y)) : ∃ y', itemF T fin ax ⟨i, vs', ms'⟩ = .ok ((o, m), y') ∧ y'.i = y.i := by
 unfold itemF at h ⊢
 dsimp only at h ⊢
 split at h
 ·
  rename_i ht
  rw [if_pos ht]
  split at h
  ·
   cases h
  ·
   rename_i s y1 h1
   rw [any_vs (vs' := vs') (ms' := ms') h1]
   dsimp only
   split at h
   ·
    cases h
   ·
    rename_i z h2
    rw [exp_vs (vs' := vs') (ms' := ms') (i := y1.i) (vs := y1.vs) (ms := y1.ms) h2]
    injection h with h; injection h with h3 h4; injection h3 with h3 h5; subst h3 h4 h5
    exact ⟨_, rfl, rfl⟩
 ·
  rename_i ht
  rw [if_neg ht]
  split at h
  ·
   cases h
  ·
   rename_i y1 h1
   rw [exp_vs (vs' := vs') (ms' := ms') h1]
   dsimp only
   have e : ruleF T fin ⟨y1.i, vs', ms'⟩ = ruleF T fin y1 := rule_vs
   rw [e]
   split at h
   ·
    cases h
   ·
    rename_i r z h2
    injection h with h; injection h with h3 h4; injection h3 with h3 h5; subst h3 h4 h5
    exact ⟨_, rfl, rfl⟩
theorem emb_of {ws rest : List Bs} {k : Nat} (h : (T.map (·.1)).drop k = ws ++ rest) : Emb (ws.map fun s => (s, 0)) T k := by
 intro j hj
 have hj2 : j < ws.length := by simpa using hj
 have e : (T.map (·.1))[k + j]? = ((T.map (·.1)).drop k)[j]? := by rw [List.getElem?_drop]
 rw [h, List.getElem?_append_left hj2] at e
 unfold tkF
 rw [List.getElem?_map] at e
 rw [e, List.getElem?_map]
 cases ws[j]? <;> rfl
theorem loop_run (hpos : ∀ j, j < T.length → offF T fin j < n) (hfin : fin = n) : ∀ (cs : List (List Bs × Rl)) (k : Nat) (vs ms : Bs) (out : List Rl) (f : Nat), (T.map (·.1)).drop k = (cs.map (·.1)).flatten → k ≤ T.length → (∀ c ∈ cs, ItemOk ax c.1 c.2 ∧ implF c.2 = true) → ((out ++ cs.map (·.2)).map (·.name)).Nodup → (out ++ cs.map (·.2)).length ≤ 160 → T.length < f + k → loopF T fin ax n f ⟨k, vs, ms⟩ out = .ok (out ++ cs.map (·.2))
 | [], k, vs, ms, out, f, hd, hk, _, _, _, hf => by
  have hl : k = T.length := by
   have := congrArg List.length hd
   simp at this
   omega
  obtain ⟨f, rfl⟩ : ∃ g, f = g + 1 := ⟨f - 1, by omega⟩
  rw [loopF, if_neg]
  ·
   simp
  ·
   unfold offF
   dsimp only
   rw [List.getElem?_eq_none (by omega)]
   dsimp only
   omega
 | c :: cs, k, vs, ms, out, f, hd, hk, hc, hn, hl, hf => by
  obtain ⟨⟨hne, m, y, hi, hyi⟩, himp⟩ := hc c List.mem_cons_self
  have hwl : 0 < c.1.length := List.length_pos_iff.2 hne
  have hd' : (T.map (·.1)).drop k = c.1 ++ (cs.map (·.1)).flatten := by rw [hd]; rfl
  have hE := emb_of hd'
  have hlen := hE.len (by simpa using hwl)
  rw [List.length_map] at hlen
  obtain ⟨f, rfl⟩ : ∃ g, f = g + 1 := ⟨f - 1, by omega⟩
  obtain ⟨y2, h2, hy2⟩ := item_vs (vs' := vs) (ms' := ms) hi
  obtain ⟨m2, h3⟩ := item_loc (fin' := fin) hE h2
  have h3 : itemF T fin ax ⟨k, vs, ms⟩ = .ok ((some c.2, m2), sh k y2) := h3
  rw [loopF, if_pos (hpos k (by omega)), h3]
  dsimp only
  have hnd : out.any (fun q => decide (q.name = c.2.name)) = false := by
   rw [List.any_eq_false]
   intro q hq
   simp only [decide_eq_true_eq]
   intro e
   rw [List.map_append, List.nodup_append] at hn
   exact hn.2.2 q.name (List.mem_map.2 ⟨q, hq, rfl⟩) c.2.name (by simp) e
  rw [if_neg (by simp [himp]), if_neg (by simp [hnd]), if_neg (by simp at hl; omega)]
  have := loop_run hpos hfin cs (k + c.1.length) y2.vs y2.ms (out ++ [c.2]) f (by rw [← List.drop_drop, hd']; simp) (by omega) (fun d hd => hc d (List.mem_cons_of_mem _ hd)) (by simpa using hn) (by simpa using hl) (by omega)
  have e : sh k y2 = ⟨k + c.1.length, y2.vs, y2.ms⟩ := by unfold sh; rw [hy2, hyi]
  rw [e, this]
  simp
end
theorem parse_file {ax : Bs → Option Rl} {s : Bs} {cs : List (List Bs × Rl)} (hx : Lex s (cs.map (·.1)).flatten) (hs : s.length ≤ 20000) (hc : ∀ c ∈ cs, ItemOk ax c.1 c.2 ∧ implF c.2 = true) (hn : ((cs.map (·.2)).map (·.name)).Nodup) (hl : cs.length ≤ 160) : parseG ax s = .ok (cs.map (·.2)) := by
 have hw := hx.len
 obtain ⟨T, h1, h2, h3, h4⟩ := hx.all
 unfold parseG
 rw [if_neg (by omega), h1, h3]
 have hTl : T.length ≤ s.length := by have := congrArg List.length h2; rw [List.length_map] at this; omega
 have := loop_run (T := T) (fin := s.length) (n := s.length) (ax := ax) (fun j hj => by
  unfold offF
  rw [List.getElem?_eq_getElem hj]
  exact h4 _ (List.getElem_mem hj)) rfl cs 0 [] [] [] (s.length + 1) (by rw [List.drop_zero]; exact h2) (Nat.zero_le _) hc (by simpa using hn) (by simpa using hl) (by omega)
 simpa using this
end Go.Proofs.Ytblkgjdhaibhgaa
namespace Go.Proofs.Ytblkgjdhaibhgaa
open Go.RowKit
theorem kstr_app (a b : Bs) : kstr a ++ kstr b = kstr (a ++ b) := by
 apply kx_inj
 rw [kx_kstr]
 simp [kx, kstr]
def decG : Nat → Nat → Bs
 | 0, _ => []
 | f + 1, n => if n < 10 then [UInt8.ofNat (48 + n)] else decG f (n / 10) ++ [UInt8.ofNat (48 + n % 10)]
def decD (n : Nat) : Bs := decG 20 n
def textF (n : Int) : Bs := if n < 0 then 45 :: decD n.natAbs else decD n.natAbs
def vnF (n : Int) : Bs := [63, UInt8.ofNat (96 + n.toNat)]
def inF (n : Int) : Bs := [UInt8.ofNat (106 + n.toNat)]
def opNm (op : Int) : Bs := nameL.getD (op - 4).toNat []
mutual
def fmtF : Pt → Bs
 | .mk v op imm iv ks =>
  if 0 < v then vnF v
  else if op = 1 then (if 0 < iv then 36 :: inF iv else textF imm)
  else [40] ++ opNm op ++ (if 0 < iv then 46 :: inF iv else if immOp op = true then 46 :: textF imm else []) ++ fmtL ks ++ [41]
def fmtL : List Pt → Bs
 | [] => []
 | k :: ks => 32 :: fmtF k ++ fmtL ks
end
def condNm (k : Int) : Bs := condL.getD (k - 1).toNat []
def fmtC (c : Cd) : Bs :=
 condNm c.kind ++ [32] ++ (if c.kind = 1 then vnF c.a else if c.kind = 4 then vnF c.a ++ [32] ++ vnF c.b else if c.kind = 5 then vnF c.a ++ [32] ++ inF c.b else if c.kind = 6 then inF c.a ++ [32] ++ inF c.b else vnF c.a ++ [32] ++ textF c.n)
def fmtCs : List Cd → Bool → Bs
 | [], _ => []
 | c :: cs, first => (if first then [32, 105, 102, 32] else [44, 32]) ++ fmtC c ++ fmtCs cs false
def fmtR (r : Rl) : Bs := [114, 117, 108, 101, 32] ++ kx r.name ++ [58, 32] ++ fmtF r.l ++ [32, 61, 62, 32] ++ fmtF r.r ++ fmtCs r.conds true ++ [59, 10]
def fmtRs : List Rl → Bs
 | [] => []
 | r :: l => fmtR r ++ fmtRs l
def printF (l : List Rl) : Bs := if l.all implF then fmtRs l else []
theorem decG_lt (f : Nat) {n : Nat} (h : n < 10) : decG (f + 1) n = [UInt8.ofNat (48 + n)] := if_pos h
theorem decG_ge (f : Nat) {n : Nat} (h : ¬ n < 10) : decG (f + 1) n = decG f (n / 10) ++ [UInt8.ofNat (48 + n % 10)] := if_neg h
theorem decG_fuel : ∀ (f g n : Nat), n < 10 ^ (f + 1) → n < 10 ^ (g + 1) → decG (f + 1) n = decG (g + 1) n
 | 0, g, n, h, _ => by rw [decG_lt 0 (by simpa using h), decG_lt g (by simpa using h)]
 | f + 1, 0, n, _, h => by rw [decG_lt (f + 1) (by simpa using h), decG_lt 0 (by simpa using h)]
 | f + 1, g + 1, n, h, k => by
  by_cases hn : n < 10
  ·
   rw [decG_lt (f + 1) hn, decG_lt (g + 1) hn]
  ·
   rw [decG_ge (f + 1) hn, decG_ge (g + 1) hn, decG_fuel f g (n / 10) (by rw [Nat.div_lt_iff_lt_mul (by decide)]; rw [Nat.pow_succ] at h; exact h) (by rw [Nat.div_lt_iff_lt_mul (by decide)]; rw [Nat.pow_succ] at k; exact k)]
theorem decD_lt {n : Nat} (h : n < 10) : decD n = [UInt8.ofNat (48 + n)] := decG_lt 19 h
theorem decD_ge {n : Nat} (h : ¬ n < 10) (hn : n < 10 ^ 20) : decD n = decD (n / 10) ++ [UInt8.ofNat (48 + n % 10)] := by
 have e : decD n = decG 19 (n / 10) ++ [UInt8.ofNat (48 + n % 10)] := decG_ge 19 h
 rw [e, decG_fuel 18 19 (n / 10) (by omega) (by omega)]
 rfl
theorem decG_len : ∀ (f n : Nat), (decG f n).length ≤ f
 | 0, n => by simp [decG]
 | f + 1, n => by
  rw [decG]
  split
  ·
   simp
  ·
   rw [List.length_append]
   have := decG_len f (n / 10)
   simp; omega
theorem decD_len (n : Nat) : (decD n).length ≤ 20 := decG_len 20 n
theorem textF_len {n : Int} (_ : -9223372036854775808 ≤ n ∧ n ≤ 9223372036854775807) : (textF n).length ≤ 21 := by
 have := decD_len n.natAbs
 unfold textF
 split <;> simp <;> omega
theorem nameL_len5 : ∀ s ∈ nameL, s.length ≤ 5 := by decide
theorem condL_len7 : ∀ s ∈ condL, s.length ≤ 7 := by decide
theorem opNm_len (op : Int) : (opNm op).length ≤ 5 := by
 unfold opNm
 rcases Nat.lt_or_ge (op - 4).toNat nameL.length with h | h
 ·
  rw [List.getD, List.getElem?_eq_getElem h, Option.getD_some]; exact nameL_len5 _ (List.getElem_mem h)
 ·
  rw [List.getD, List.getElem?_eq_none h]; simp
theorem condNm_len (op : Int) : (condNm op).length ≤ 7 := by
 unfold condNm
 rcases Nat.lt_or_ge (op - 1).toNat condL.length with h | h
 ·
  rw [List.getD, List.getElem?_eq_getElem h, Option.getD_some]; exact condL_len7 _ (List.getElem_mem h)
 ·
  rw [List.getD, List.getElem?_eq_none h]; simp
inductive FmOk : Pt → Prop
 | var {v op imm iv : Int} {ks : List Pt} : 0 < v → v ≤ 100 → FmOk (.mk v op imm iv ks)
 | cst {v imm iv : Int} {ks : List Pt} : ¬ 0 < v → -9223372036854775808 ≤ imm → imm ≤ 9223372036854775807 → iv ≤ 100 → FmOk (.mk v 1 imm iv ks)
 | app {v op imm iv : Int} {ks : List Pt} : ¬ 0 < v → 4 ≤ op → op < 32 → -9223372036854775808 ≤ imm → imm ≤ 9223372036854775807 → iv ≤ 100 → (∀ k ∈ ks, FmOk k) → FmOk (.mk v op imm iv ks)
mutual
theorem fmtF_len : ∀ p : Pt, FmOk p → (fmtF p).length + 1 ≤ 30 * p.size
 | .mk v op imm iv ks, h => by
  have hs : (Pt.mk v op imm iv ks).size = 1 + Pt.sizeL ks := by rw [Pt.size_eq]; rfl
  rw [hs]
  unfold fmtF
  cases h with
  | var h1 h2 => rw [if_pos h1]; simp [vnF]; omega
  | cst h1 h2 h3 h4 =>
   rw [if_neg h1, if_pos rfl]
   have := textF_len ⟨h2, h3⟩
   split <;> simp [inF] <;> omega
  | app h1 h2 h3 h4 h5 h6 h7 =>
   rw [if_neg h1, if_neg (by omega)]
   have e1 := fmtL_len ks h7
   have e2 := opNm_len op
   have e3 := textF_len ⟨h4, h5⟩
   simp only [List.length_append, List.length_singleton]
   have e4 : (if 0 < iv then 46 :: inF iv else if immOp op = true then 46 :: textF imm else ([] : Bs)).length ≤ 22 := by
    split
    ·
     simp [inF]
    ·
     split <;> simp <;> omega
   omega
theorem fmtL_len : ∀ ks : List Pt, (∀ k ∈ ks, FmOk k) → (fmtL ks).length ≤ 30 * Pt.sizeL ks
 | [], _ => by simp [fmtL, Pt.sizeL]
 | k :: ks, h => by
  have e1 := fmtF_len k (h k List.mem_cons_self)
  have e2 := fmtL_len ks (fun q hq => h q (List.mem_cons_of_mem _ hq))
  simp only [fmtL, Pt.sizeL, List.cons_append, List.length_cons, List.length_append]
  omega
end
theorem fmtL_snoc (k : Pt) : ∀ ks : List Pt, fmtL (ks ++ [k]) = fmtL ks ++ (32 :: fmtF k)
 | [] => by simp [fmtL]
 | q :: ks => by simp [fmtL, fmtL_snoc k ks]
end Go.Proofs.Ytblkgjdhaibhgaa
namespace Go.Proofs.Ytblkgjdhaibhgaa
open Go.RowKit
theorem bstr_k (ns : List Int) : bstr ns = kstr (ns.map fun n => UInt8.ofNat n.toNat) := rfl
set_option maxRecDepth 100000 in
theorem rImmName_c (n : Int) (h0 : 0 < n) (h1 : n ≤ 100) (w : World) : Calls Try.prog 50 #[.int .i64 n] w fun e w' => e = .returned (.string (kstr (inF n))) ∧ Upd Non w w' := by
 have hc := run_str (P := Try.prog) (src := 48) (dst := 9) Try.underlying48 Try.underlying5 Try.underlying9 (ns := [107 + n - 1]) (c := 1) (Sl.new w 5 [.int .u8 (107 + n - 1)]) (n := 1) rfl
 have HE : Hid (bstr [107 + n - 1] = kstr (inF n)) := by
  show bstr _ = _
  rw [bstr_k]
  unfold inF
  rw [show [107 + n - 1].map (fun n => UInt8.ofNat n.toNat) = [UInt8.ofNat (106 + n.toNat)] by show [UInt8.ofNat (107 + n - 1).toNat] = _; rw [show (107 + n - 1).toNat = 106 + n.toNat by omega]]
 obtain ⟨s, Hs⟩ := nm (bstr [107 + n - 1])
 rw [Hs.out] at hc HE
 rw [← HE.out]
 clear Hs HE
 go_enter Try.func50, Try.ntmps50
 go_wp2_with fail
 go_ret
 exact ⟨rfl, Upd.refl.alloc _⟩
set_option maxRecDepth 100000 in
theorem rVarName_c (n : Int) (h0 : 0 < n) (h1 : n ≤ 100) (w : World) : Calls Try.prog 49 #[.int .i64 n] w fun e w' => e = .returned (.string (kstr (vnF n))) ∧ Upd Non w w' := by
 have hc := run_str (P := Try.prog) (src := 48) (dst := 9) Try.underlying48 Try.underlying5 Try.underlying9 (ns := [97 + n - 1]) (c := 1) (Sl.new w 5 [.int .u8 (97 + n - 1)]) (n := 1) rfl
 have HE : Hid (({ data := #[63] } : ByteArray) ++ bstr [97 + n - 1] = kstr (vnF n)) := by
  show _ ++ bstr _ = _
  rw [bstr_k]
  unfold vnF
  rw [show [97 + n - 1].map (fun n => UInt8.ofNat n.toNat) = [UInt8.ofNat (96 + n.toNat)] by show [UInt8.ofNat (97 + n - 1).toNat] = _; rw [show (97 + n - 1).toNat = 96 + n.toNat by omega]]
  exact kstr_app [63] _
 have hsz : (bstr [97 + n - 1]).size = 1 := by simp [bstr, ByteArray.size]
 obtain ⟨s, Hs⟩ := nm (bstr [97 + n - 1])
 rw [Hs.out] at hc HE hsz
 rw [← HE.out]
 clear Hs HE
 go_enter Try.func49, Try.ntmps49
 go_wp2_with fail
 go_ret
 exact ⟨rfl, Upd.refl.alloc _⟩
theorem slice20 (g i : Nat) (hi : i < 20) (W : World) : (Instr.sliceAt 121 (.pointer (some ⟨g, 0, none⟩)) (some (.int .i64 i)) none none).run Try.prog W = .ok (.slice (some ⟨g, i, none⟩) (20 - i) (20 - i)) W := by
 have hal : Try.prog.arrayLen 121 = 20 := by kernel_rfl
 have hel : Try.prog.elem 121 = 5 := by kernel_rfl
 have ht : Try.prog.underlying 121 = some (.array (Try.prog.arrayLen 121) (Try.prog.elem 121)) := by rw [hal, hel]; exact Try.underlying121
 have hsz : (sizeOf 5).run Try.prog W = .ok 1 W := by
  have h : (Try.prog.info? 5).map (·.size) = some 1 := by kernel_rfl
  cases hi : Try.prog.info? 5 with
  | none => rw [hi] at h; cases h
  | some i => rw [hi] at h; simp at h; simp [sizeOf, typeInfo, hi, h]
 rw [run_sliceAt_array_l W 121 ⟨g, 0, none⟩ ht .i64 i (by omega) (by rw [hal]; omega), hal, hel, hsz]
 have hne : ¬ 20 = i := by omega
 simp [slicedAt, Result.andThen, hne, Addr.add_lit]
theorem bstr_ub (L : Bs) : bstr (L.map fun b => (b.toNat : Int)) = kstr L := by
 rw [bstr_k, List.map_map]
 congr 1
 have : ((fun n : Int => UInt8.ofNat n.toNat) ∘ fun b : UInt8 => (b.toNat : Int)) = id := by funext b; simp
 rw [this, List.map_id]
def ub (b : UInt8) : Value := .int .u8 b.toNat
theorem Sl.drop_ {W : World} {g i : Nat} {t : TypeId} {cs : Array Value} {L : Bs} (hb : Blk W g t cs) (h : cs.toList.drop i = L.map ub) : Sl W (fun _ => True) (some ⟨g, i, none⟩) ((L.map fun b => (b.toNat : Int)).map fun x => .int .u8 x) := by
 refine .inr ⟨_, _, rfl, trivial, fun k hk => ?_⟩
 have hk2 : k < L.length := by simpa using hk
 rw [hb.cell]
 have h1 : cs[i + k]? = (cs.toList.drop i)[k]? := by rw [List.getElem?_drop]; simp
 rw [h1, h]
 simp [ub, hk2]
set_option maxRecDepth 100000 in
set_option maxHeartbeats 1000000 in
theorem wDigits_c (n : Nat) (hn : n ≤ 18446744073709551615) (w : World) : Calls Try.prog 75 #[.int .u64 n] w fun e w' => e = .returned (.string (kstr (decD n))) ∧ Upd Non w w' := by
 go_enter Try.func75, Try.ntmps75
 go_wp2_with fail
 go_loopg [0, 4] 20 (fun g nv av wr => ∃ (j m : Nat) (suf : Bs) (cs : Array Value), Hid (g = j) ∧ 1 ≤ j ∧ j ≤ 20 ∧ nv = .int .u64 m ∧ av = .int .i64 j ∧ Hid (Blk wr w.heap.size 121 cs) ∧ cs.size = 20 ∧ Hid (cs.toList.drop j = suf.map ub) ∧ Hid (decD n = decD m ++ suf) ∧ m ≤ 18446744073709551615 ∧ Hid (m < 10 ^ j) ∧ Hid (j = 20 ∨ 0 < m) ∧ Hid (Upd Non w wr))
 case atStart => exact ⟨20, n, [], _, rfl, by omega, by omega, rfl, rfl, Blk.new _ _ _, rfl, rfl, by show _ = _; rw [List.append_nil], hn, by show n < 10 ^ 20; omega, .inl rfl, Upd.refl.alloc _⟩
 case round =>
  obtain ⟨j, m, suf, cs, Hg, hj1, hj2, rfl, rfl, Hb, hcs, HD, HN, hm64, HM, HZ, HU⟩ := hrel
  obtain ⟨i, rfl⟩ : ∃ i, j = i + 1 := ⟨j - 1, by omega⟩
  have hil : i < cs.size := by omega
  have ci := Hb.out.cell i
  rw [Array.getElem?_eq_getElem hil] at ci
  have cf := Hb.out.frozen i
  obtain ⟨old, Hold⟩ := nm cs[i]
  rw [Hold.out] at ci
  obtain ⟨W, HW⟩ := nm (wr.setCell ⟨w.heap.size, i, none⟩ (.int .u8 (48 + (m : Int) % 10)))
  have e1 := HW.out
  have hb2 : Blk W w.heap.size 121 (cs.setIfInBounds i (.int .u8 (48 + (m : Int) % 10))) := by rw [← e1]; exact Hb.out.set_ i _
  have hu2 : Upd Non w W := by rw [← e1]; exact HU.out.trans (updCell _ _ _ _) (fun k hk e => by omega)
  have hd2 : (cs.setIfInBounds i (.int .u8 (48 + (m : Int) % 10))).toList.drop i = (UInt8.ofNat (48 + m % 10) :: suf).map ub := by
   have h1 : i < cs.toList.length := by simpa using hil
   rw [Array.toList_setIfInBounds, List.drop_set, if_neg (by omega), Nat.sub_self, List.drop_eq_getElem_cons h1, HD.out]
   simp only [List.set_cons_zero, List.map_cons, ub]
   congr 2
   simp
   omega
  have HB2 := Lib.hid hb2
  have HU2 := Lib.hid hu2
  have HD2 := Lib.hid hd2
  have hsl := slice20 w.heap.size i (by omega) W
  have hcv := run_str (P := Try.prog) (w := W) (F := fun _ => True) (src := 48) (dst := 9) Try.underlying48 Try.underlying5 Try.underlying9 (A := some ⟨w.heap.size, i, none⟩) (n := 20 - i) (c := 20 - i) (ns := (UInt8.ofNat (48 + m % 10) :: suf).map fun b => (b.toNat : Int))
   (Sl.drop_ hb2 hd2) (by
    have := congrArg List.length hd2
    simp only [List.length_drop, Array.length_toList, Array.size_setIfInBounds, List.length_map] at this
    simp only [List.length_map]
    omega)
  rw [bstr_ub] at hcv
  clear hb2 hu2 hd2
  by_cases hm : m < 10
  ·
   have tq : ((m : Int) / 10 == 0) = true := by simp; omega
   obtain ⟨str, Hstr⟩ := nm (kstr (UInt8.ofNat (48 + m % 10) :: suf))
   rw [Hstr.out] at hcv
   go_wp2_with fail
   go_ret
   refine ⟨?_, HU2.out⟩
   rw [HN.out, decD_lt hm, ← Hstr.out, Nat.mod_eq_of_lt hm]
   rfl
  ·
   have tq : ((m : Int) / 10 == 0) = false := by simp; omega
   clear hsl hcv
   go_wp2_with fail
   go_roundg i
   case measure => rw [Hg.out]; omega
   case rel =>
    have hmn : m / 10 < 10 ^ i := by rw [Nat.div_lt_iff_lt_mul (by decide)]; have := HM.out; rw [Nat.pow_succ] at this; exact this
    refine ⟨i, m / 10, UInt8.ofNat (48 + m % 10) :: suf, _, rfl, ?_, by omega, by go_num, rfl, HB2.out, by simpa using hcs, HD2.out, ?_, by omega, hmn, .inr (by omega), HU2.out⟩
    ·
     rcases Nat.eq_zero_or_pos i with q | q
     ·
      subst q; simp at hmn; omega
     ·
      exact q
    ·
     show decD n = _
     rw [HN.out, decD_ge hm (by omega), List.append_assoc]
     rfl
set_option maxRecDepth 100000 in
theorem wText_c (n : Int) (h0 : -9223372036854775808 ≤ n) (h1 : n ≤ 9223372036854775807) (w : World) : Calls Try.prog 51 #[.int .i64 n] w fun e w' => e = .returned (.string (kstr (textF n))) ∧ Upd Non w w' := by
 have C := Lib.hid (wDigits_c n.natAbs (by omega) w)
 have HL : Hid ((kstr (decD n.natAbs)).size ≤ 20) := by
  show _ ≤ _
  rw [← kx_len, kx_kstr]
  exact decD_len _
 have HE : Hid (kstr (textF n) = if n < 0 then ({ data := #[45] } : ByteArray) ++ kstr (decD n.natAbs) else kstr (decD n.natAbs)) := by
  show _ = _
  unfold textF
  split
  ·
   exact (kstr_app [45] _).symm
  ·
   rfl
 obtain ⟨s, Hs⟩ := nm (kstr (decD n.natAbs))
 obtain ⟨t, Ht⟩ := nm (kstr (textF n))
 rw [Hs.out] at C HL HE
 rw [Ht.out] at HE ⊢
 have hl := HL.out
 by_cases hn : n < 0
 ·
  have t0 : decide (n < 0) = true := decide_eq_true hn
  have HR : Hid (t = ({ data := #[45] } : ByteArray) ++ s) := by show _ = _; rw [HE.out, if_pos hn]
  rw [show ((n.natAbs : Nat) : Int) = -n by omega] at C
  clear HE HL Hs Ht
  go_enter Try.func51, Try.ntmps51
  have hw : IntKind.u64.wrap (-IntKind.u64.wrap n) = -n := by
   simp [IntKind.wrap, IntKind.bits, IntKind.signed]
   omega
  go_wp2_with fail
  refine C.out.mono ?_
  rintro e w2 ⟨rfl, hu⟩
  clear C hw
  go_wp2_with fail
  go_ret
  exact ⟨by rw [HR.out]; rfl, hu⟩
 ·
  have t0 : decide (n < 0) = false := decide_eq_false hn
  have HR : Hid (t = s) := by show _ = _; rw [HE.out, if_neg hn]
  rw [show ((n.natAbs : Nat) : Int) = n by omega] at C
  clear HE HL Hs Ht
  go_enter Try.func51, Try.ntmps51
  go_wp2_with fail
  refine C.out.mono ?_
  rintro e w2 ⟨rfl, hu⟩
  clear C
  go_wp2_with fail
  go_ret
  exact ⟨by rw [HR.out]; rfl, hu⟩
end Go.Proofs.Ytblkgjdhaibhgaa
namespace Go.Proofs.Ytblkgjdhaibhgaa
open Go.RowKit
set_option maxRecDepth 100000 in
theorem tName_c (op : Int) (h0 : 4 ≤ op) (h1 : op < 32) (w : World) : Calls Try.prog 52 #[.int .i64 op] w fun e w' => e = .returned (.tuple #[.string (kstr (opNm op)), .bool true]) ∧ Upd Non w w' := by
 have C := Lib.hid (tnames_c w)
 obtain ⟨k, rfl⟩ : ∃ k : Nat, op = 4 + k := ⟨(op - 4).toNat, by omega⟩
 have hk : k < 28 := by omega
 have hkl : k < nameL.length := hk
 have HN : Hid (opNm (4 + (k : Int)) = nameL[k]) := by
  show _ = _
  unfold opNm
  rw [show (4 + (k : Int) - 4).toNat = k by omega, List.getD, List.getElem?_eq_getElem hkl, Option.getD_some]
 rw [HN.out]
 obtain ⟨nk, Hnk⟩ := nm (kstr nameL[k])
 rw [Hnk.out]
 have td : decide (28 ≤ (k : Int)) = false := decide_eq_false (by omega)
 have t1 : decide (4 + (k : Int) < 4) = false := decide_eq_false (by omega)
 have t3 : 4 + (k : Int) - 4 = (k : Int) := by omega
 clear HN h0 h1
 go_enter Try.func52, Try.ntmps52
 go_wp2_with fail
 refine C.out.mono ?_
 rintro e W ⟨rfl, hs, hu⟩
 obtain ⟨b, o, e, _, _, hc⟩ := hs.at_ (k := k) (by simpa [sCells] using hkl)
 injection e with e
 injection e with e1 e2
 subst e1 e2
 have hc2 : W.cell? ⟨w.heap.size, k, none⟩ = some (.string (kstr nameL[k])) := by rw [Nat.zero_add] at hc; rw [hc]; simp [sCells]
 rw [Hnk.out] at hc2
 clear C hs hc
 go_wp2_with fail
 go_ret2
 exact ⟨rfl, hu⟩
theorem fmt_eq (p : Pt) : fmtF p = if 0 < p.v then vnF p.v else if p.op = 1 then (if 0 < p.iv then 36 :: inF p.iv else textF p.imm)
  else [40] ++ opNm p.op ++ (if 0 < p.iv then 46 :: inF p.iv else if immOp p.op = true then 46 :: textF p.imm else []) ++ fmtL p.kids ++ [41] := by
 cases p
 rw [fmtF]
 rfl
theorem FmOk.inv {p : Pt} (h : FmOk p) : (0 < p.v ∧ p.v ≤ 100) ∨ (¬ 0 < p.v ∧ p.op = 1 ∧ -9223372036854775808 ≤ p.imm ∧ p.imm ≤ 9223372036854775807 ∧ p.iv ≤ 100) ∨ (¬ 0 < p.v ∧ 4 ≤ p.op ∧ p.op < 32 ∧ -9223372036854775808 ≤ p.imm ∧ p.imm ≤ 9223372036854775807 ∧ p.iv ≤ 100 ∧ ∀ k ∈ p.kids, FmOk k) := by
 cases h with
 | var h1 h2 => exact .inl ⟨h1, h2⟩
 | cst h1 h2 h3 h4 => exact .inr (.inl ⟨h1, rfl, h2, h3, h4⟩)
 | app h1 h2 h3 h4 h5 h6 h7 => exact .inr (.inr ⟨h1, h2, h3, h4, h5, h6, h7⟩)
theorem ksz {L : Bs} {n : Nat} (h : L.length ≤ n) : (kstr L).size ≤ n := by rw [← kx_len, kx_kstr]; exact h
set_option maxRecDepth 100000 in
set_option maxHeartbeats 2000000 in
theorem rFormat_c (p : Pt) : ∀ (w : World) (F : Nat → Prop) (KA : Option Addr) (kc : Nat), PtK w F p KA kc → FmOk p → p.size ≤ 1000000000000 →
  Calls Try.prog 21 #[pv p KA kc] w fun e w' => e = .returned (.string (kstr (fmtF p))) ∧ Upd Non w w' := by
 induction p using Pt.ind with
 | h p ih =>
  intro w F KA kc hp hok hs
  have hse := Pt.size_eq p
  have hle := Pt.len_le p.kids
  have HI := Lib.hid ih
  obtain ⟨W, HW⟩ := nm (w.alloc (.cells #[.int .i64 p.v, .int .i64 p.op, .int .i64 p.imm, .int .i64 p.iv, .slice KA p.kids.length kc] 30))
  have hU : Upd Non w W := by rw [← HW.out]; exact Upd.refl.alloc _
  have hb : Blk W w.heap.size 30 #[.int .i64 p.v, .int .i64 p.op, .int .i64 p.imm, .int .i64 p.iv, .slice KA p.kids.length kc] := by rw [← HW.out]; exact Blk.new _ _ _
  have e0 := HW.out
  have c0 := hb.cell 0
  have c1 := hb.cell 1
  have c2 := hb.cell 2
  have c3 := hb.cell 3
  have HB := Lib.hid hb
  have HF := Lib.hid (fmt_eq p)
  have HLN := Lib.hid (fmtF_len p hok)
  obtain ⟨res, Hres⟩ := nm (fmtF p)
  rw [Hres.out] at HF HLN ⊢
  have hpW := PtK.upd hU (fun _ _ _ f => f) p KA kc hp
  have HPW := Lib.hid hpW
  have HS := Lib.hid hse
  have HU := Lib.hid hU
  unfold pv
  clear ih hse hp hb hpW hU
  rcases hok.inv with ⟨a1, a2⟩ | ⟨a1, a2, a3, a4, a5⟩ | ⟨a1, a2, a3, a4, a5, a6, a7⟩
  ·
   have tv : decide (0 < p.v) = true := decide_eq_true a1
   have HR : Hid (res = vnF p.v) := by show _ = _; rw [HF.out, if_pos a1]
   have CV := Lib.hid (fun W => rVarName_c p.v a1 a2 W)
   rw [HR.out]
   clear a1 a2 hok hle
   obtain ⟨v, Hv⟩ := nm p.v
   rw [Hv.out] at c0 tv e0 CV ⊢
   clear c1 c2 c3
   go_enter Try.func21, Try.ntmps21
   go_wp2_with fail
   refine (CV.out _).mono ?_
   rintro e w2 ⟨rfl, hu⟩
   clear CV e0
   go_wp2_with fail
   go_ret
   exact ⟨rfl, HU.out.then_non hu⟩
  ·
   have tv : decide (0 < p.v) = false := decide_eq_false a1
   by_cases hi : 0 < p.iv
   ·
    have ti : decide (0 < p.iv) = true := decide_eq_true hi
    have HR : Hid (res = 36 :: inF p.iv) := by show _ = _; rw [HF.out, if_neg a1, if_pos a2, if_pos hi]
    have CV := Lib.hid (fun W => rImmName_c p.iv hi a5 W)
    have hz : (kstr (inF p.iv)).size ≤ 1 := ksz (Nat.le_refl _)
    have HA : Hid (({ data := #[36] } : ByteArray) ++ kstr (inF p.iv) = kstr res) := by show _ = _; rw [HR.out]; exact kstr_app [36] _
    rw [a2] at c1 e0
    obtain ⟨str, Hstr⟩ := nm (kstr (inF p.iv))
    rw [Hstr.out] at CV HA hz
    rw [a2]
    clear a1 a2 a3 a4 a5 hok hle HF hi
    obtain ⟨v, Hv⟩ := nm p.v
    obtain ⟨iv, Hiv⟩ := nm p.iv
    rw [Hv.out, Hiv.out] at e0
    rw [Hv.out] at c0 tv
    rw [Hiv.out] at c3 ti CV
    rw [Hv.out, Hiv.out]
    clear c2
    go_enter Try.func21, Try.ntmps21
    go_wp2_with fail
    refine (CV.out _).mono ?_
    rintro e w2 ⟨rfl, hu⟩
    clear CV e0
    go_wp2_with fail
    go_ret
    exact ⟨by rw [← HA.out]; rfl, HU.out.then_non hu⟩
   ·
    have ti : decide (0 < p.iv) = false := decide_eq_false hi
    have HR : Hid (res = textF p.imm) := by show _ = _; rw [HF.out, if_neg a1, if_pos a2, if_neg hi]
    have CV := Lib.hid (fun W => wText_c p.imm a3 a4 W)
    rw [HR.out]
    rw [a2] at c1 e0
    rw [a2]
    clear a1 a2 a3 a4 a5 hok hle HF hi
    obtain ⟨v, Hv⟩ := nm p.v
    obtain ⟨iv, Hiv⟩ := nm p.iv
    obtain ⟨imm, Himm⟩ := nm p.imm
    rw [Hv.out, Hiv.out, Himm.out] at e0
    rw [Hv.out] at c0 tv
    rw [Hiv.out] at c3 ti
    rw [Himm.out] at c2 CV
    rw [Hv.out, Hiv.out, Himm.out]
    go_enter Try.func21, Try.ntmps21
    go_wp2_with fail
    refine (CV.out _).mono ?_
    rintro e w2 ⟨rfl, hu⟩
    clear CV e0
    go_wp2_with fail
    go_ret
    exact ⟨rfl, HU.out.then_non hu⟩
  ·
   have tv : decide (0 < p.v) = false := decide_eq_false a1
   have tp1 : (p.op == 1) = false := by simp; omega
   have HR : Hid (res = [40] ++ opNm p.op ++ (if 0 < p.iv then 46 :: inF p.iv else if immOp p.op = true then 46 :: textF p.imm else []) ++ fmtL p.kids ++ [41]) := by show _ = _; rw [HF.out, if_neg a1, if_neg (by omega)]
   have HBD := Lib.hid hok
   obtain ⟨suf, Hsuf⟩ := nm (if 0 < p.iv then 46 :: inF p.iv else if immOp p.op = true then 46 :: textF p.imm else ([] : Bs))
   have hsufl : suf.length ≤ 22 := by
    rw [← Hsuf.out]
    have := textF_len ⟨a4, a5⟩
    split
    ·
     simp [inF]
    ·
     split <;> simp <;> omega
   rw [Hsuf.out] at HR
   have hnl := opNm_len p.op
   have CN := Lib.hid (tName_c p.op a2 a3 W)
   obtain ⟨nmb, Hnmb⟩ := nm (opNm p.op)
   rw [Hnmb.out] at HR hnl CN
   have hz : (kstr nmb).size ≤ 5 := ksz hnl
   have H5 : Hid (({ data := #[40] } : ByteArray) ++ kstr nmb = kstr ([40] ++ nmb)) := kstr_app [40] nmb
   obtain ⟨ns, Hns⟩ := nm (kstr nmb)
   rw [Hns.out] at CN hz H5
   have hz5 : (kstr ([40] ++ nmb)).size ≤ 6 := ksz (by simp; omega)
   obtain ⟨s5, Hs5⟩ := nm (kstr ([40] ++ nmb))
   rw [Hs5.out] at H5 hz5
   have hk := HBD.out
   have HKS : Hid (∀ k ∈ p.kids, FmOk k) := a7
   have HIM : Hid (-9223372036854775808 ≤ p.imm ∧ p.imm ≤ 9223372036854775807 ∧ p.iv ≤ 100) := ⟨a4, a5, a6⟩
   have CI := Lib.hid (fun (h : 0 < p.iv) W => rImmName_c p.iv h a6 W)
   have CT := Lib.hid (fun W => wText_c p.imm a4 a5 W)
   have CH := Lib.hid (fun W => rHasImm_c p.op W)
   have HSP : Hid (suf = if 0 < p.iv then 46 :: inF p.iv else if immOp p.op = true then 46 :: textF p.imm else ([] : Bs)) := Hsuf.out.symm
   have hpo : p.op ≠ 1 := by omega
   clear a1 a2 a3 a4 a5 a6 a7 hok hk HF Hsuf
   obtain ⟨v, Hv⟩ := nm p.v
   obtain ⟨iv, Hiv⟩ := nm p.iv
   obtain ⟨imm, Himm⟩ := nm p.imm
   obtain ⟨op, Hop⟩ := nm p.op
   obtain ⟨n, Hn⟩ := nm p.kids.length
   rw [Hv.out, Hiv.out, Himm.out, Hop.out, Hn.out] at e0
   rw [Hv.out] at c0 tv
   rw [Hiv.out] at c3 CI
   rw [Hop.out] at c1 tp1 CN CH
   rw [Himm.out] at c2 CT
   rw [Hiv.out, Himm.out, Hop.out] at HSP
   rw [Hn.out] at hle
   rw [Hv.out, Hiv.out, Himm.out, Hop.out, Hn.out]
   have hn12 : n ≤ 1000000000000 := by have := HS.out; omega
   clear hpo
   go_enter Try.func21, Try.ntmps21
   go_wp2_with fail
   refine CN.out.mono ?_
   rintro e w2 ⟨rfl, hu2⟩
   have d2 := cell_upd c2 hu2 (fun f => f)
   have d3 := cell_upd c3 hu2 (fun f => f)
   have d1 := cell_upd c1 hu2 (fun f => f)
   have h5 := H5.out
   clear CN e0 c0 c1 c2 c3
   obtain ⟨D, HD⟩ := nm (decide (0 < iv))
   have tD := HD.out
   go_upto_if 45 with fail
   clear tD
   go_cut [5] (fun s wx => s = .string (kstr ([40] ++ nmb ++ suf)) ∧ Upd Non W wx)
   case first =>
    cases D with
    | true =>
     have hi : 0 < iv := of_decide_eq_true HD.out
     have CII := Lib.hid (CI.out hi)
     have HSF : Hid (suf = 46 :: inF iv) := by show _ = _; rw [HSP.out, if_pos hi]
     have hzi : (kstr (inF iv)).size ≤ 1 := ksz (Nat.le_refl _)
     have HE : Hid (s5 ++ (({ data := #[46] } : ByteArray) ++ kstr (inF iv)) = kstr ([40] ++ nmb ++ suf)) := by
      show _ = _
      rw [← Hs5.out, HSF.out, show ({ data := #[46] } : ByteArray) ++ kstr (inF iv) = kstr (46 :: inF iv) from kstr_app [46] _, kstr_app]
     obtain ⟨im, Him⟩ := nm (kstr (inF iv))
     rw [Him.out] at CII hzi HE
     clear hi
     go_wp2_with fail
     refine (CII.out _).mono ?_
     rintro e w3 ⟨rfl, hu3⟩
     clear CII
     go_wp2_with fail
     go_meet
     case rel => exact ⟨by rw [← HE.out], hu2.then_non hu3⟩
    | false =>
     have hi : ¬ 0 < iv := of_decide_eq_false HD.out
     obtain ⟨hm, Hhm⟩ := nm (immOp op)
     have CHH := Lib.hid (CH.out)
     rw [Hhm.out] at CHH
     cases hm with
     | true =>
      have HSF : Hid (suf = 46 :: textF imm) := by show _ = _; rw [HSP.out, if_neg hi, if_pos Hhm.out]
      have hzi : (kstr (textF imm)).size ≤ 21 := ksz (textF_len (by rw [← Himm.out]; exact ⟨HIM.out.1, HIM.out.2.1⟩))
      have HE : Hid (s5 ++ (({ data := #[46] } : ByteArray) ++ kstr (textF imm)) = kstr ([40] ++ nmb ++ suf)) := by
       show _ = _
       rw [← Hs5.out, HSF.out, show ({ data := #[46] } : ByteArray) ++ kstr (textF imm) = kstr (46 :: textF imm) from kstr_app [46] _, kstr_app]
      have CTT := Lib.hid (CT.out)
      obtain ⟨im, Him⟩ := nm (kstr (textF imm))
      rw [Him.out] at CTT hzi HE
      clear hi
      go_wp2_with fail
      refine (CHH.out _).mono ?_
      rintro e w3 ⟨rfl, rfl⟩
      go_wp2_with fail
      refine (CTT.out _).mono ?_
      rintro e w4 ⟨rfl, hu3⟩
      clear CTT
      go_wp2_with fail
      go_meet
      case rel => exact ⟨by rw [← HE.out], hu2.then_non hu3⟩
     | false =>
      have HE : Hid (s5 = kstr ([40] ++ nmb ++ suf)) := by show _ = _; rw [← Hs5.out, HSP.out, if_neg hi, if_neg (by rw [Hhm.out]; decide), List.append_nil]
      clear hi
      go_wp2_with fail
      refine (CHH.out _).mono ?_
      rintro e w3 ⟨rfl, rfl⟩
      go_wp2_with fail
      go_meet
      case rel => exact ⟨by rw [← HE.out], hu2⟩
   case rest =>
    obtain ⟨rfl, hwc⟩ := hcut
    clear d1 d2 d3 h5 CI CT CH HSP
    have hbw := HB.out.upd hwc (fun f => f)
    rw [Hn.out] at hbw
    have c4 := hbw.cell 4
    have HPC := Lib.hid (PtK.upd hwc (fun _ _ _ f => f) p KA kc HPW.out)
    have HUC := Lib.hid (HU.out.then_non hwc)
    obtain ⟨pre, Hpre⟩ := nm ([40] ++ nmb ++ suf)
    have hpl : pre.length ≤ 28 := by rw [← Hpre.out]; simp; omega
    rw [Hpre.out] at HR ⊢
    clear hbw hwc hu2
    go_wp2_with fail
    go_loopg [5, 7, 64] n (fun g v _ i wr => ∃ k : Nat, Hid (g = n - k) ∧ k ≤ n ∧ i = .int .i64 k ∧ v = .string (kstr (pre ++ fmtL (p.kids.take k))) ∧ Hid (Upd Non wc wr))
    case atStart => exact ⟨0, rfl, by omega, rfl, by simp [fmtL], Upd.refl⟩
    case round =>
     obtain ⟨k, Hg, hk, rfl, rfl, Hu⟩ := hrel
     have hkt := Pt.sizeL_take_le p.kids k
     have hfl := fmtL_len (p.kids.take k) (fun q hq => HKS.out q (List.mem_of_mem_take hq))
     have hz0 : (kstr (pre ++ fmtL (p.kids.take k))).size ≤ 100000000000000 := ksz (by rw [List.length_append]; have := HS.out; omega)
     by_cases hlt : k < n
     ·
      have hkl : k < p.kids.length := by rw [Hn.out]; exact hlt
      obtain ⟨b, o, rfl, hF, hbw, KB, kd, h0, h1, h2, h3, h4, h5⟩ := (PtK.upd Hu.out (fun _ _ _ f => f) p KA kc HPC.out).at_ hkl
      have hks : p.kids[k].size ≤ 1000000000000 := by have := Pt.kids_lt (List.getElem_mem hkl); omega
      have hmem0 := List.getElem_mem hkl
      have HTK : Hid (p.kids.take (k + 1) = p.kids.take k ++ [p.kids[k]]) := take_snoc' hkl
      generalize p.kids[k] = q at *
      have hmem : q ∈ p.kids := by assumption
      obtain ⟨W3, HW3⟩ := nm (wr.alloc (.cells #[.int .i64 q.v, .int .i64 q.op, .int .i64 q.imm, .int .i64 q.iv, .slice KB q.kids.length kd] 30))
      have hq := PtK.upd (Upd.refl.alloc (S := Non) (.cells #[.int .i64 q.v, .int .i64 q.op, .int .i64 q.imm, .int .i64 q.iv, .slice KB q.kids.length kd] 30)) (fun _ _ _ f => f) q KB kd h5
      have C1 := Lib.hid (HI.out q hmem _ F KB kd hq (HKS.out q hmem) hks)
      unfold pv at C1
      have hql := fmtF_len q (HKS.out q hmem)
      have hzq : (kstr (fmtF q)).size ≤ 100000000000000 := ksz (by omega)
      have HE : Hid (kstr (pre ++ fmtL (p.kids.take k)) ++ (({ data := #[32] } : ByteArray) ++ kstr (fmtF q)) = kstr (pre ++ fmtL (p.kids.take (k + 1)))) := by
       show _ = _
       rw [HTK.out, fmtL_snoc, show ({ data := #[32] } : ByteArray) ++ kstr (fmtF q) = kstr (32 :: fmtF q) from kstr_app [32] _, kstr_app, List.append_assoc]
      obtain ⟨sq, Hsq⟩ := nm (kstr (fmtF q))
      obtain ⟨sk, Hsk⟩ := nm (kstr (pre ++ fmtL (p.kids.take k)))
      rw [Hsq.out] at C1 hzq HE
      rw [Hsk.out] at hz0 HE ⊢
      clear hkt hfl h5 hq hql hmem hmem0 hks
      go_wp2_with fail
      refine C1.out.mono ?_
      rintro e w4 ⟨rfl, hu4⟩
      clear C1
      go_wp2_with fail
      go_roundg (n - (k + 1))
      case measure => rw [Hg.out]; omega
      case rel => exact ⟨k + 1, rfl, by omega, by go_num, by rw [← HE.out], (Hu.out.alloc _).then_non hu4⟩
     ·
      obtain rfl : n = k := by omega
      have HE : Hid (kstr (pre ++ fmtL (p.kids.take n)) ++ ({ data := #[41] } : ByteArray) = kstr res) := by
       show _ = _
       rw [← Hn.out, List.take_length, HR.out]
       exact kstr_app _ [41]
      obtain ⟨sk, Hsk⟩ := nm (kstr (pre ++ fmtL (p.kids.take n)))
      rw [Hsk.out] at hz0 HE ⊢
      clear hkt hfl
      go_wp2_with fail
      go_ret
      exact ⟨by rw [← HE.out]; rfl, HUC.out.then_non Hu.out⟩
end Go.Proofs.Ytblkgjdhaibhgaa
namespace Go.Proofs.Ytblkgjdhaibhgaa
open Go.RowKit
structure CdFm (c : Cd) : Prop where
 k0 : 1 ≤ c.kind
 k1 : c.kind ≤ 6
 a0 : 0 < c.a
 a1 : c.a ≤ 100
 b0 : 4 ≤ c.kind → 0 < c.b
 b1 : 4 ≤ c.kind → c.b ≤ 100
 n0 : -9223372036854775808 ≤ c.n
 n1 : c.n ≤ 9223372036854775807
theorem fmtC_len {c : Cd} (h : CdFm c) : (fmtC c).length ≤ 40 := by
 have e1 := condNm_len c.kind
 have e2 := textF_len ⟨h.n0, h.n1⟩
 unfold fmtC
 simp only [List.length_append, List.length_singleton]
 have : (if c.kind = 1 then vnF c.a else if c.kind = 4 then vnF c.a ++ [32] ++ vnF c.b else if c.kind = 5 then vnF c.a ++ [32] ++ inF c.b else if c.kind = 6 then inF c.a ++ [32] ++ inF c.b else vnF c.a ++ [32] ++ textF c.n).length ≤ 24 := by
  repeat' split
  all_goals simp [vnF, inF]
  all_goals omega
 omega
theorem catF {a b c : Bs} : (kstr a ++ kstr b ++ ({ data := #[32] } : ByteArray)) ++ kstr c = kstr (a ++ (b ++ [32] ++ c)) := by
 rw [show ({ data := #[32] } : ByteArray) = kstr [32] from rfl, kstr_app, kstr_app, kstr_app]
 simp
set_option maxRecDepth 100000 in
set_option maxHeartbeats 2000000 in
theorem rFormatCond_c (c : Cd) (h : CdFm c) (w : World) : Calls Try.prog 22 #[.agg #[.int .i64 c.kind, .int .i64 c.a, .int .i64 c.b, .int .i64 c.n]] w fun e w' => e = .returned (.string (kstr (fmtC c))) ∧ Upd Non w w' := by
 obtain ⟨W, HW⟩ := nm (w.alloc (.cells #[.int .i64 c.kind, .int .i64 c.a, .int .i64 c.b, .int .i64 c.n] 66))
 have hU : Upd Non w W := by rw [← HW.out]; exact Upd.refl.alloc _
 have hb : Blk W w.heap.size 66 #[.int .i64 c.kind, .int .i64 c.a, .int .i64 c.b, .int .i64 c.n] := by rw [← HW.out]; exact Blk.new _ _ _
 have e0 := HW.out
 have HU := Lib.hid hU
 have HB := Lib.hid hb
 have H := Lib.hid h
 have c0 := hb.cell 0
 have C := Lib.hid (fun W => condNames_c W)
 have hk0 := h.k0
 have hk1 := h.k1
 have HF : Hid (fmtC c = (condNm c.kind ++ [32]) ++ (if c.kind = 1 then vnF c.a else if c.kind = 4 then vnF c.a ++ [32] ++ vnF c.b else if c.kind = 5 then vnF c.a ++ [32] ++ inF c.b else if c.kind = 6 then inF c.a ++ [32] ++ inF c.b else vnF c.a ++ [32] ++ textF c.n)) := rfl
 obtain ⟨res, Hres⟩ := nm (fmtC c)
 rw [Hres.out] at HF ⊢
 have hzn : (kstr (condNm c.kind)).size ≤ 7 := ksz (condNm_len _)
 have hz3 : (kstr (condNm c.kind ++ [32])).size ≤ 8 := ksz (by have := condNm_len c.kind; simp; omega)
 have h3 : kstr (condNm c.kind) ++ ({ data := #[32] } : ByteArray) = kstr (condNm c.kind ++ [32]) := kstr_app _ [32]
 obtain ⟨j, hj⟩ : ∃ j : Nat, c.kind = 1 + j := ⟨(c.kind - 1).toNat, by omega⟩
 have hj6 : j < 6 := by omega
 have hjl : j < condL.length := hj6
 have HN : Hid (condNm c.kind = condL[j]) := by
  show _ = _
  unfold condNm
  rw [show (c.kind - 1).toNat = j by omega, List.getD, List.getElem?_eq_getElem hjl, Option.getD_some]
 have tj : 1 + (j : Int) - 1 = (j : Int) := by omega
 have hwj : IntKind.i64.wrap (j : Int) = (j : Int) := by
  simp [IntKind.wrap, IntKind.bits, IntKind.signed]
  omega
 have hlt6 : (j : Int) < 6 := by omega
 have HJ := Lib.hid hj
 obtain ⟨ns, Hns⟩ := nm (kstr (condNm c.kind))
 obtain ⟨s3, Hs3⟩ := nm (kstr (condNm c.kind ++ [32]))
 rw [Hns.out] at hzn h3
 rw [Hs3.out] at hz3 h3
 rw [hj] at c0 e0
 rw [hj]
 clear hU hb h hj hk0 hk1
 go_enter Try.func22, Try.ntmps22
 go_upto_region 1 with fail
 go_cut [3] (fun s wx => s = .string s3 ∧ Upd Non W wx)
 case first =>
  obtain ⟨wD, HwD⟩ := nm W.drew
  have uD : Upd Non W wD := by rw [← HwD.out]; exact Upd.refl.drew
  refine wp_region_held_drew (S := fun w' => w'.cell? ⟨w.heap.size, 0, none⟩ = some (.int .i64 (1 + (j : Int)))) (by kernel_rfl) (by rw [HwD.out]; exact cell_upd c0 uD (fun f => f)) (fun hHeld => ?_)
  rw [HwD.out] at hHeld ⊢
  have hq1 : ¬ (9223372036854775807 < ns.size + 1) := by omega
  refine wpT 1 ?_
  try simp only [put_y]
  try simp only [Act.put]
  try simp only [put_z]
  refine wpT 2 ?_
  try simp only [put_y]
  try simp only [Act.put]
  try simp only [put_z]
  refine wpT 3 ?_
  try simp only [put_y]
  try simp only [Act.put]
  try simp only [put_z]
  refine wpAnyH_ready (rs := [0]) (by kernel_rfl) (by simp) ?_
  refine AllReadyH.cons rfl (fun K hK => ?_) AllReadyH.nil
  go_simp
  refine (C.out _).mono ?_
  rintro e w3 ⟨rfl, hs, _, u3⟩
  have h3u : Upd Non W w3 := uD.then_non u3
  obtain ⟨b, o, e, _, _, hc⟩ := hs.at_ (k := j) (by simpa [sCells] using hjl)
  injection e with e
  injection e with e1 e2
  subst e1 e2
  have hc2 : w3.cell? ⟨wD.heap.size, j, none⟩ = some (.string ns) := by rw [Nat.zero_add] at hc; rw [hc, ← Hns.out, HN.out]; simp [sCells]
  clear hs hc
  go_wp2_with fail
  refine hK.out _ _ ?_ (fun hHeld => ?_)
  ·
   exact cell_upd c0 h3u (fun f => f)
  clear hK K
  try simp only [put_y]
  try simp only [Act.put]
  try simp only [put_z]
  refine wpT 4 ?_
  try simp only [put_y]
  try simp only [Act.put]
  try simp only [put_z]
  refine wpAnyH_ready (rs := [5]) (by kernel_rfl) (by simp) ?_
  refine AllReadyH.cons rfl (fun K hK => ?_) AllReadyH.nil
  go_simp
  refine hK.out _ _ ?_ (fun hHeld => ?_)
  ·
   exact cell_upd c0 h3u (fun f => f)
  clear hK K
  try simp only [put_y]
  try simp only [Act.put]
  try simp only [put_z]
  refine wpT 6 ?_
  try simp only [put_y]
  try simp only [Act.put]
  try simp only [put_z]
  refine wpT 7 ?_
  try simp only [put_y]
  try simp only [Act.put]
  try simp only [put_z]
  refine wpAnyH_done (by kernel_rfl) ?_ _
  go_wp2_with fail
  go_meet
  case rel => exact ⟨rfl, h3u⟩
 case rest =>
  obtain ⟨rfl, hwc⟩ := hcut
  have HU := Lib.hid (HU.out.then_non hwc)
  have hb2 := HB.out.upd hwc (fun f => f)
  have d0 := hb2.cell 0
  have d1 := hb2.cell 1
  have d2 := hb2.cell 2
  have d3 := hb2.cell 3
  clear c0 e0 hb2 hwc tj hlt6 hwj h3 hzn HN hjl C
  obtain ⟨w2, rfl⟩ : ∃ v : World, v = wc := ⟨_, rfl⟩
  rw [HJ.out] at d0 HF
  rcases (by omega : j = 0 ∨ j = 3 ∨ j = 4 ∨ j = 5 ∨ j = 1 ∨ j = 2) with rfl | rfl | rfl | rfl | rfl | rfl
  ·
   have d0 : w2.cell? ⟨w.heap.size, 0, none⟩ = some (.int .i64 1) := d0
   have HR : Hid (res = (condNm (1 + (0 : Nat)) ++ [32]) ++ vnF c.a) := by show _ = _; rw [HF.out]; rfl
   have C1 := Lib.hid (fun W => rVarName_c c.a H.out.a0 H.out.a1 W)
   have hz1 : (kstr (vnF c.a)).size ≤ 24 := ksz (by simp [vnF])
   have HE : Hid (s3 ++ kstr (vnF c.a) = kstr res) := by
    show _ = _
    rw [HR.out, ← Hs3.out, HJ.out]
    exact kstr_app _ _
   obtain ⟨p1, Hp1⟩ := nm (kstr (vnF c.a))
   rw [Hp1.out] at C1 hz1 HE
   obtain ⟨ca, Hca⟩ := nm c.a
   rw [Hca.out] at d1 C1
   clear d2 d3
   go_wp2_with fail
   refine (C1.out _).mono ?_
   rintro e w3 ⟨rfl, u3⟩
   go_wp2_with fail
   go_ret
   exact ⟨by rw [← HE.out]; rfl, HU.out.then_non u3⟩
  ·
   have d0 : w2.cell? ⟨w.heap.size, 0, none⟩ = some (.int .i64 4) := d0
   have HR : Hid (res = (condNm (1 + (3 : Nat)) ++ [32]) ++ (vnF c.a ++ [32] ++ vnF c.b)) := by show _ = _; rw [HF.out]; rfl
   have C1 := Lib.hid (fun W => rVarName_c c.a H.out.a0 H.out.a1 W)
   have C2 := Lib.hid (fun W => rVarName_c c.b (H.out.b0 (by have := HJ.out; omega)) (H.out.b1 (by have := HJ.out; omega)) W)
   have hz1 : (kstr (vnF c.a)).size ≤ 24 := ksz (by simp [vnF])
   have hz2 : (kstr (vnF c.b)).size ≤ 24 := ksz (by simp [vnF])
   have HE : Hid ((s3 ++ kstr (vnF c.a) ++ ({ data := #[32] } : ByteArray)) ++ kstr (vnF c.b) = kstr res) := by
    show _ = _
    rw [HR.out, ← Hs3.out, HJ.out]
    exact catF
   obtain ⟨p1, Hp1⟩ := nm (kstr (vnF c.a))
   obtain ⟨p2, Hp2⟩ := nm (kstr (vnF c.b))
   rw [Hp1.out] at C1 hz1 HE
   rw [Hp2.out] at C2 hz2 HE
   obtain ⟨ca, Hca⟩ := nm c.a
   obtain ⟨cb, Hcb⟩ := nm c.b
   rw [Hca.out] at d1 C1
   rw [Hcb.out] at d2 C2
   go_upto_region 6 with fail
   obtain ⟨wD, HwD⟩ := nm w2.drew
   have uD : Upd Non w2 wD := by rw [← HwD.out]; exact Upd.refl.drew
   refine wp_region_held_drew (S := fun w' => w'.cell? ⟨w.heap.size, 1, none⟩ = some (.int .i64 ca) ∧ w'.cell? ⟨w.heap.size, 2, none⟩ = some (.int .i64 cb)) (by kernel_rfl) (by rw [HwD.out]; exact ⟨cell_upd d1 uD (fun f => f), cell_upd d2 uD (fun f => f)⟩) (fun hHeld => ?_)
   skip
   rw [HwD.out] at hHeld ⊢
   have hq1 : ¬ (9223372036854775807 < s3.size + p1.size) := by omega
   have hq2 : ¬ (9223372036854775807 < s3.size + p1.size + 1) := by omega
   have hq3 : ¬ (9223372036854775807 < s3.size + p1.size + 1 + p2.size) := by omega
   refine wpT 0 ?_
   try simp only [put_y]
   try simp only [Act.put]
   try simp only [put_z]
   refine wpT 1 ?_
   try simp only [put_y]
   try simp only [Act.put]
   try simp only [put_z]
   refine wpT 2 ?_
   try simp only [put_y]
   try simp only [Act.put]
   try simp only [put_z]
   refine wpT 6 ?_
   try simp only [put_y]
   try simp only [Act.put]
   try simp only [put_z]
   refine wpT 7 ?_
   try simp only [put_y]
   try simp only [Act.put]
   try simp only [put_z]
   refine wpAnyH_ready (rs := [3]) (by kernel_rfl) (by simp) ?_
   refine AllReadyH.cons rfl (fun K hK => ?_) AllReadyH.nil
   go_simp
   refine (C1.out _).mono ?_
   rintro e w3 ⟨rfl, u3⟩
   have h3 : Upd Non w2 w3 := uD.then_non u3
   go_wp2_with fail
   refine hK.out _ _ ?_ (fun hHeld => ?_)
   ·
    exact ⟨cell_upd d1 h3 (fun f => f), cell_upd d2 h3 (fun f => f)⟩
   clear hK K
   try simp only [put_y]
   try simp only [Act.put]
   try simp only [put_z]
   refine wpT 4 ?_
   try simp only [put_y]
   try simp only [Act.put]
   try simp only [put_z]
   refine wpT 5 ?_
   try simp only [put_y]
   try simp only [Act.put]
   try simp only [put_z]
   refine wpAnyH_ready (rs := [8]) (by kernel_rfl) (by simp) ?_
   refine AllReadyH.cons rfl (fun K hK => ?_) AllReadyH.nil
   go_simp
   refine (C2.out _).mono ?_
   rintro e w4 ⟨rfl, u4⟩
   have h4 : Upd Non w2 w4 := h3.then_non u4
   go_wp2_with fail
   refine hK.out _ _ ?_ (fun hHeld => ?_)
   ·
    exact ⟨cell_upd d1 h4 (fun f => f), cell_upd d2 h4 (fun f => f)⟩
   clear hK K
   try simp only [put_y]
   try simp only [Act.put]
   try simp only [put_z]
   refine wpT 9 ?_
   try simp only [put_y]
   try simp only [Act.put]
   try simp only [put_z]
   refine wpT 10 ?_
   try simp only [put_y]
   try simp only [Act.put]
   try simp only [put_z]
   refine wpAnyH_done (by kernel_rfl) ?_ _
   go_wp2_with fail
   go_ret
   exact ⟨by rw [← HE.out]; rfl, HU.out.then_non h4⟩
  ·
   have d0 : w2.cell? ⟨w.heap.size, 0, none⟩ = some (.int .i64 5) := d0
   have HR : Hid (res = (condNm (1 + (4 : Nat)) ++ [32]) ++ (vnF c.a ++ [32] ++ inF c.b)) := by show _ = _; rw [HF.out]; rfl
   have C1 := Lib.hid (fun W => rVarName_c c.a H.out.a0 H.out.a1 W)
   have C2 := Lib.hid (fun W => rImmName_c c.b (H.out.b0 (by have := HJ.out; omega)) (H.out.b1 (by have := HJ.out; omega)) W)
   have hz1 : (kstr (vnF c.a)).size ≤ 24 := ksz (by simp [vnF])
   have hz2 : (kstr (inF c.b)).size ≤ 24 := ksz (by simp [inF])
   have HE : Hid ((s3 ++ kstr (vnF c.a) ++ ({ data := #[32] } : ByteArray)) ++ kstr (inF c.b) = kstr res) := by
    show _ = _
    rw [HR.out, ← Hs3.out, HJ.out]
    exact catF
   obtain ⟨p1, Hp1⟩ := nm (kstr (vnF c.a))
   obtain ⟨p2, Hp2⟩ := nm (kstr (inF c.b))
   rw [Hp1.out] at C1 hz1 HE
   rw [Hp2.out] at C2 hz2 HE
   obtain ⟨ca, Hca⟩ := nm c.a
   obtain ⟨cb, Hcb⟩ := nm c.b
   rw [Hca.out] at d1 C1
   rw [Hcb.out] at d2 C2
   go_upto_region 8 with fail
   obtain ⟨wD, HwD⟩ := nm w2.drew
   have uD : Upd Non w2 wD := by rw [← HwD.out]; exact Upd.refl.drew
   refine wp_region_held_drew (S := fun w' => w'.cell? ⟨w.heap.size, 1, none⟩ = some (.int .i64 ca) ∧ w'.cell? ⟨w.heap.size, 2, none⟩ = some (.int .i64 cb)) (by kernel_rfl) (by rw [HwD.out]; exact ⟨cell_upd d1 uD (fun f => f), cell_upd d2 uD (fun f => f)⟩) (fun hHeld => ?_)
   skip
   rw [HwD.out] at hHeld ⊢
   have hq1 : ¬ (9223372036854775807 < s3.size + p1.size) := by omega
   have hq2 : ¬ (9223372036854775807 < s3.size + p1.size + 1) := by omega
   have hq3 : ¬ (9223372036854775807 < s3.size + p1.size + 1 + p2.size) := by omega
   refine wpT 0 ?_
   try simp only [put_y]
   try simp only [Act.put]
   try simp only [put_z]
   refine wpT 1 ?_
   try simp only [put_y]
   try simp only [Act.put]
   try simp only [put_z]
   refine wpT 2 ?_
   try simp only [put_y]
   try simp only [Act.put]
   try simp only [put_z]
   refine wpT 6 ?_
   try simp only [put_y]
   try simp only [Act.put]
   try simp only [put_z]
   refine wpT 7 ?_
   try simp only [put_y]
   try simp only [Act.put]
   try simp only [put_z]
   refine wpAnyH_ready (rs := [3]) (by kernel_rfl) (by simp) ?_
   refine AllReadyH.cons rfl (fun K hK => ?_) AllReadyH.nil
   go_simp
   refine (C1.out _).mono ?_
   rintro e w3 ⟨rfl, u3⟩
   have h3 : Upd Non w2 w3 := uD.then_non u3
   go_wp2_with fail
   refine hK.out _ _ ?_ (fun hHeld => ?_)
   ·
    exact ⟨cell_upd d1 h3 (fun f => f), cell_upd d2 h3 (fun f => f)⟩
   clear hK K
   try simp only [put_y]
   try simp only [Act.put]
   try simp only [put_z]
   refine wpT 4 ?_
   try simp only [put_y]
   try simp only [Act.put]
   try simp only [put_z]
   refine wpT 5 ?_
   try simp only [put_y]
   try simp only [Act.put]
   try simp only [put_z]
   refine wpAnyH_ready (rs := [8]) (by kernel_rfl) (by simp) ?_
   refine AllReadyH.cons rfl (fun K hK => ?_) AllReadyH.nil
   go_simp
   refine (C2.out _).mono ?_
   rintro e w4 ⟨rfl, u4⟩
   have h4 : Upd Non w2 w4 := h3.then_non u4
   go_wp2_with fail
   refine hK.out _ _ ?_ (fun hHeld => ?_)
   ·
    exact ⟨cell_upd d1 h4 (fun f => f), cell_upd d2 h4 (fun f => f)⟩
   clear hK K
   try simp only [put_y]
   try simp only [Act.put]
   try simp only [put_z]
   refine wpT 9 ?_
   try simp only [put_y]
   try simp only [Act.put]
   try simp only [put_z]
   refine wpT 10 ?_
   try simp only [put_y]
   try simp only [Act.put]
   try simp only [put_z]
   refine wpAnyH_done (by kernel_rfl) ?_ _
   go_wp2_with fail
   go_ret
   exact ⟨by rw [← HE.out]; rfl, HU.out.then_non h4⟩
  ·
   have d0 : w2.cell? ⟨w.heap.size, 0, none⟩ = some (.int .i64 6) := d0
   have HR : Hid (res = (condNm (1 + (5 : Nat)) ++ [32]) ++ (inF c.a ++ [32] ++ inF c.b)) := by show _ = _; rw [HF.out]; rfl
   have C1 := Lib.hid (fun W => rImmName_c c.a H.out.a0 H.out.a1 W)
   have C2 := Lib.hid (fun W => rImmName_c c.b (H.out.b0 (by have := HJ.out; omega)) (H.out.b1 (by have := HJ.out; omega)) W)
   have hz1 : (kstr (inF c.a)).size ≤ 24 := ksz (by simp [inF])
   have hz2 : (kstr (inF c.b)).size ≤ 24 := ksz (by simp [inF])
   have HE : Hid ((s3 ++ kstr (inF c.a) ++ ({ data := #[32] } : ByteArray)) ++ kstr (inF c.b) = kstr res) := by
    show _ = _
    rw [HR.out, ← Hs3.out, HJ.out]
    exact catF
   obtain ⟨p1, Hp1⟩ := nm (kstr (inF c.a))
   obtain ⟨p2, Hp2⟩ := nm (kstr (inF c.b))
   rw [Hp1.out] at C1 hz1 HE
   rw [Hp2.out] at C2 hz2 HE
   obtain ⟨ca, Hca⟩ := nm c.a
   obtain ⟨cb, Hcb⟩ := nm c.b
   rw [Hca.out] at d1 C1
   rw [Hcb.out] at d2 C2
   go_upto_region 10 with fail
   obtain ⟨wD, HwD⟩ := nm w2.drew
   have uD : Upd Non w2 wD := by rw [← HwD.out]; exact Upd.refl.drew
   refine wp_region_held_drew (S := fun w' => w'.cell? ⟨w.heap.size, 1, none⟩ = some (.int .i64 ca) ∧ w'.cell? ⟨w.heap.size, 2, none⟩ = some (.int .i64 cb)) (by kernel_rfl) (by rw [HwD.out]; exact ⟨cell_upd d1 uD (fun f => f), cell_upd d2 uD (fun f => f)⟩) (fun hHeld => ?_)
   skip
   rw [HwD.out] at hHeld ⊢
   have hq1 : ¬ (9223372036854775807 < s3.size + p1.size) := by omega
   have hq2 : ¬ (9223372036854775807 < s3.size + p1.size + 1) := by omega
   have hq3 : ¬ (9223372036854775807 < s3.size + p1.size + 1 + p2.size) := by omega
   refine wpT 0 ?_
   try simp only [put_y]
   try simp only [Act.put]
   try simp only [put_z]
   refine wpT 1 ?_
   try simp only [put_y]
   try simp only [Act.put]
   try simp only [put_z]
   refine wpT 2 ?_
   try simp only [put_y]
   try simp only [Act.put]
   try simp only [put_z]
   refine wpT 6 ?_
   try simp only [put_y]
   try simp only [Act.put]
   try simp only [put_z]
   refine wpT 7 ?_
   try simp only [put_y]
   try simp only [Act.put]
   try simp only [put_z]
   refine wpAnyH_ready (rs := [3]) (by kernel_rfl) (by simp) ?_
   refine AllReadyH.cons rfl (fun K hK => ?_) AllReadyH.nil
   go_simp
   refine (C1.out _).mono ?_
   rintro e w3 ⟨rfl, u3⟩
   have h3 : Upd Non w2 w3 := uD.then_non u3
   go_wp2_with fail
   refine hK.out _ _ ?_ (fun hHeld => ?_)
   ·
    exact ⟨cell_upd d1 h3 (fun f => f), cell_upd d2 h3 (fun f => f)⟩
   clear hK K
   try simp only [put_y]
   try simp only [Act.put]
   try simp only [put_z]
   refine wpT 4 ?_
   try simp only [put_y]
   try simp only [Act.put]
   try simp only [put_z]
   refine wpT 5 ?_
   try simp only [put_y]
   try simp only [Act.put]
   try simp only [put_z]
   refine wpAnyH_ready (rs := [8]) (by kernel_rfl) (by simp) ?_
   refine AllReadyH.cons rfl (fun K hK => ?_) AllReadyH.nil
   go_simp
   refine (C2.out _).mono ?_
   rintro e w4 ⟨rfl, u4⟩
   have h4 : Upd Non w2 w4 := h3.then_non u4
   go_wp2_with fail
   refine hK.out _ _ ?_ (fun hHeld => ?_)
   ·
    exact ⟨cell_upd d1 h4 (fun f => f), cell_upd d2 h4 (fun f => f)⟩
   clear hK K
   try simp only [put_y]
   try simp only [Act.put]
   try simp only [put_z]
   refine wpT 9 ?_
   try simp only [put_y]
   try simp only [Act.put]
   try simp only [put_z]
   refine wpT 10 ?_
   try simp only [put_y]
   try simp only [Act.put]
   try simp only [put_z]
   refine wpAnyH_done (by kernel_rfl) ?_ _
   go_wp2_with fail
   go_ret
   exact ⟨by rw [← HE.out]; rfl, HU.out.then_non h4⟩
  ·
   have d0 : w2.cell? ⟨w.heap.size, 0, none⟩ = some (.int .i64 2) := d0
   have HR : Hid (res = (condNm (1 + (1 : Nat)) ++ [32]) ++ (vnF c.a ++ [32] ++ textF c.n)) := by show _ = _; rw [HF.out]; rfl
   have C1 := Lib.hid (fun W => rVarName_c c.a H.out.a0 H.out.a1 W)
   have C2 := Lib.hid (fun W => wText_c c.n H.out.n0 H.out.n1 W)
   have hz1 : (kstr (vnF c.a)).size ≤ 24 := ksz (by simp [vnF])
   have hz2 : (kstr (textF c.n)).size ≤ 24 := ksz (by have := textF_len ⟨H.out.n0, H.out.n1⟩; omega)
   have HE : Hid ((s3 ++ kstr (vnF c.a) ++ ({ data := #[32] } : ByteArray)) ++ kstr (textF c.n) = kstr res) := by
    show _ = _
    rw [HR.out, ← Hs3.out, HJ.out]
    exact catF
   obtain ⟨p1, Hp1⟩ := nm (kstr (vnF c.a))
   obtain ⟨p2, Hp2⟩ := nm (kstr (textF c.n))
   rw [Hp1.out] at C1 hz1 HE
   rw [Hp2.out] at C2 hz2 HE
   obtain ⟨ca, Hca⟩ := nm c.a
   obtain ⟨cb, Hcb⟩ := nm c.n
   rw [Hca.out] at d1 C1
   rw [Hcb.out] at d3 C2
   go_upto_region 11 with fail
   obtain ⟨wD, HwD⟩ := nm w2.drew
   have uD : Upd Non w2 wD := by rw [← HwD.out]; exact Upd.refl.drew
   refine wp_region_held_drew (S := fun w' => w'.cell? ⟨w.heap.size, 1, none⟩ = some (.int .i64 ca) ∧ w'.cell? ⟨w.heap.size, 3, none⟩ = some (.int .i64 cb)) (by kernel_rfl) (by rw [HwD.out]; exact ⟨cell_upd d1 uD (fun f => f), cell_upd d3 uD (fun f => f)⟩) (fun hHeld => ?_)
   have d2 := d3
   rw [HwD.out] at hHeld ⊢
   have hq1 : ¬ (9223372036854775807 < s3.size + p1.size) := by omega
   have hq2 : ¬ (9223372036854775807 < s3.size + p1.size + 1) := by omega
   have hq3 : ¬ (9223372036854775807 < s3.size + p1.size + 1 + p2.size) := by omega
   refine wpT 0 ?_
   try simp only [put_y]
   try simp only [Act.put]
   try simp only [put_z]
   refine wpT 1 ?_
   try simp only [put_y]
   try simp only [Act.put]
   try simp only [put_z]
   refine wpT 2 ?_
   try simp only [put_y]
   try simp only [Act.put]
   try simp only [put_z]
   refine wpT 6 ?_
   try simp only [put_y]
   try simp only [Act.put]
   try simp only [put_z]
   refine wpT 7 ?_
   try simp only [put_y]
   try simp only [Act.put]
   try simp only [put_z]
   refine wpAnyH_ready (rs := [3]) (by kernel_rfl) (by simp) ?_
   refine AllReadyH.cons rfl (fun K hK => ?_) AllReadyH.nil
   go_simp
   refine (C1.out _).mono ?_
   rintro e w3 ⟨rfl, u3⟩
   have h3 : Upd Non w2 w3 := uD.then_non u3
   go_wp2_with fail
   refine hK.out _ _ ?_ (fun hHeld => ?_)
   ·
    exact ⟨cell_upd d1 h3 (fun f => f), cell_upd d2 h3 (fun f => f)⟩
   clear hK K
   try simp only [put_y]
   try simp only [Act.put]
   try simp only [put_z]
   refine wpT 4 ?_
   try simp only [put_y]
   try simp only [Act.put]
   try simp only [put_z]
   refine wpT 5 ?_
   try simp only [put_y]
   try simp only [Act.put]
   try simp only [put_z]
   refine wpAnyH_ready (rs := [8]) (by kernel_rfl) (by simp) ?_
   refine AllReadyH.cons rfl (fun K hK => ?_) AllReadyH.nil
   go_simp
   refine (C2.out _).mono ?_
   rintro e w4 ⟨rfl, u4⟩
   have h4 : Upd Non w2 w4 := h3.then_non u4
   go_wp2_with fail
   refine hK.out _ _ ?_ (fun hHeld => ?_)
   ·
    exact ⟨cell_upd d1 h4 (fun f => f), cell_upd d2 h4 (fun f => f)⟩
   clear hK K
   try simp only [put_y]
   try simp only [Act.put]
   try simp only [put_z]
   refine wpT 9 ?_
   try simp only [put_y]
   try simp only [Act.put]
   try simp only [put_z]
   refine wpT 10 ?_
   try simp only [put_y]
   try simp only [Act.put]
   try simp only [put_z]
   refine wpAnyH_done (by kernel_rfl) ?_ _
   go_wp2_with fail
   go_ret
   exact ⟨by rw [← HE.out]; rfl, HU.out.then_non h4⟩
  ·
   have d0 : w2.cell? ⟨w.heap.size, 0, none⟩ = some (.int .i64 3) := d0
   have HR : Hid (res = (condNm (1 + (2 : Nat)) ++ [32]) ++ (vnF c.a ++ [32] ++ textF c.n)) := by show _ = _; rw [HF.out]; rfl
   have C1 := Lib.hid (fun W => rVarName_c c.a H.out.a0 H.out.a1 W)
   have C2 := Lib.hid (fun W => wText_c c.n H.out.n0 H.out.n1 W)
   have hz1 : (kstr (vnF c.a)).size ≤ 24 := ksz (by simp [vnF])
   have hz2 : (kstr (textF c.n)).size ≤ 24 := ksz (by have := textF_len ⟨H.out.n0, H.out.n1⟩; omega)
   have HE : Hid ((s3 ++ kstr (vnF c.a) ++ ({ data := #[32] } : ByteArray)) ++ kstr (textF c.n) = kstr res) := by
    show _ = _
    rw [HR.out, ← Hs3.out, HJ.out]
    exact catF
   obtain ⟨p1, Hp1⟩ := nm (kstr (vnF c.a))
   obtain ⟨p2, Hp2⟩ := nm (kstr (textF c.n))
   rw [Hp1.out] at C1 hz1 HE
   rw [Hp2.out] at C2 hz2 HE
   obtain ⟨ca, Hca⟩ := nm c.a
   obtain ⟨cb, Hcb⟩ := nm c.n
   rw [Hca.out] at d1 C1
   rw [Hcb.out] at d3 C2
   go_upto_region 11 with fail
   obtain ⟨wD, HwD⟩ := nm w2.drew
   have uD : Upd Non w2 wD := by rw [← HwD.out]; exact Upd.refl.drew
   refine wp_region_held_drew (S := fun w' => w'.cell? ⟨w.heap.size, 1, none⟩ = some (.int .i64 ca) ∧ w'.cell? ⟨w.heap.size, 3, none⟩ = some (.int .i64 cb)) (by kernel_rfl) (by rw [HwD.out]; exact ⟨cell_upd d1 uD (fun f => f), cell_upd d3 uD (fun f => f)⟩) (fun hHeld => ?_)
   have d2 := d3
   rw [HwD.out] at hHeld ⊢
   have hq1 : ¬ (9223372036854775807 < s3.size + p1.size) := by omega
   have hq2 : ¬ (9223372036854775807 < s3.size + p1.size + 1) := by omega
   have hq3 : ¬ (9223372036854775807 < s3.size + p1.size + 1 + p2.size) := by omega
   refine wpT 0 ?_
   try simp only [put_y]
   try simp only [Act.put]
   try simp only [put_z]
   refine wpT 1 ?_
   try simp only [put_y]
   try simp only [Act.put]
   try simp only [put_z]
   refine wpT 2 ?_
   try simp only [put_y]
   try simp only [Act.put]
   try simp only [put_z]
   refine wpT 6 ?_
   try simp only [put_y]
   try simp only [Act.put]
   try simp only [put_z]
   refine wpT 7 ?_
   try simp only [put_y]
   try simp only [Act.put]
   try simp only [put_z]
   refine wpAnyH_ready (rs := [3]) (by kernel_rfl) (by simp) ?_
   refine AllReadyH.cons rfl (fun K hK => ?_) AllReadyH.nil
   go_simp
   refine (C1.out _).mono ?_
   rintro e w3 ⟨rfl, u3⟩
   have h3 : Upd Non w2 w3 := uD.then_non u3
   go_wp2_with fail
   refine hK.out _ _ ?_ (fun hHeld => ?_)
   ·
    exact ⟨cell_upd d1 h3 (fun f => f), cell_upd d2 h3 (fun f => f)⟩
   clear hK K
   try simp only [put_y]
   try simp only [Act.put]
   try simp only [put_z]
   refine wpT 4 ?_
   try simp only [put_y]
   try simp only [Act.put]
   try simp only [put_z]
   refine wpT 5 ?_
   try simp only [put_y]
   try simp only [Act.put]
   try simp only [put_z]
   refine wpAnyH_ready (rs := [8]) (by kernel_rfl) (by simp) ?_
   refine AllReadyH.cons rfl (fun K hK => ?_) AllReadyH.nil
   go_simp
   refine (C2.out _).mono ?_
   rintro e w4 ⟨rfl, u4⟩
   have h4 : Upd Non w2 w4 := h3.then_non u4
   go_wp2_with fail
   refine hK.out _ _ ?_ (fun hHeld => ?_)
   ·
    exact ⟨cell_upd d1 h4 (fun f => f), cell_upd d2 h4 (fun f => f)⟩
   clear hK K
   try simp only [put_y]
   try simp only [Act.put]
   try simp only [put_z]
   refine wpT 9 ?_
   try simp only [put_y]
   try simp only [Act.put]
   try simp only [put_z]
   refine wpT 10 ?_
   try simp only [put_y]
   try simp only [Act.put]
   try simp only [put_z]
   refine wpAnyH_done (by kernel_rfl) ?_ _
   go_wp2_with fail
   go_ret
   exact ⟨by rw [← HE.out]; rfl, HU.out.then_non h4⟩
end Go.Proofs.Ytblkgjdhaibhgaa
