/-
  What rules.collect does.
-/
import Derived.Test.YtblkgjdhaibhgaaRulQ
import Derived.Test.YtblkgjdhaibhgaaMild
namespace Go.Proofs.Ytblkgjdhaibhgaa
open Go.RowKit

theorem rs_len (op : Int) : (rsF op).1.length = 3 := by
  unfold rsF
  (repeat' split) <;> rfl
theorem arr3_cells (l : List Int) (h : l.length = 3) : #[Value.int .i64 (l.getD 0 0), .int .i64 (l.getD 1 0), .int .i64 (l.getD 2 0)] = (icells l).toArray := by
  match l, h with
  | [a, b, c], _ => rfl
theorem arr3_get {w : World} {g : Nat} {l : List Int} (h : Blk w g 92 (icells l).toArray) {i : Nat} (hi : i < l.length) : w.cell? ⟨g, i, none⟩ = some (.int .i64 (l.getD i 0)) := by
  rw [h.cell]; simp [icells, List.getD, hi]
def ss_ok (ks : List Pt) (ss : List Int) (m : Int) (n : Nat) : Prop := shpL ks ss m n = true
set_option maxRecDepth 100000 in
set_option maxHeartbeats 4000000 in
theorem rlCollect_c (p : Pt) : ∀ (w : World) (F : Nat → Prop) (KA : Option Addr) (kc gv c gi d : Nat) (s s0 : Int) (m n : Nat) (vs ms : List Int), PtK w F p KA kc → ¬ F gv → ¬ F gi → gv ≠ gi → VBlk w gv vs → VBlk w gi ms → shp p s0 m n = true → vs.length = n + 1 → ms.length = m + 1 → n ≤ 1000 → m ≤ 1000 →
    Calls Try.prog 47 #[pv p KA kc, .int .i64 s, .slice (some ⟨gv, 0, none⟩) vs.length c, .slice (some ⟨gi, 0, none⟩) ms.length d] w fun e w' => e = .returned (.tuple #[]) ∧ VBlk w' gv (colV (occ p s) vs) ∧ VBlk w' gi (colI (occI p) ms) ∧ Upd (fun k => k = gv ∨ k = gi) w w' := by
  induction p using Pt.ind with
  | h p ih =>
    intro w F KA kc gv c gi d s s0 m n vs ms hp hFv hFi hne hgv hgi hsh hvl hml hn hm
    have HI := Lib.hid ih
    obtain ⟨W, HW⟩ := nm (w.alloc (.cells #[.int .i64 p.v, .int .i64 p.op, .int .i64 p.imm, .int .i64 p.iv, .slice KA p.kids.length kc] 30))
    have hU : Upd Non w W := by rw [← HW.out]; exact Upd.refl.alloc _
    have hb : Blk W w.heap.size 30 #[.int .i64 p.v, .int .i64 p.op, .int .i64 p.imm, .int .i64 p.iv, .slice KA p.kids.length kc] := by rw [← HW.out]; exact Blk.new _ _ _
    have hsz : W.heap.size = w.heap.size + 1 := by rw [← HW.out]; simp
    have e0 := HW.out
    have hvlt : gv < w.heap.size := Blk.lt hgv
    have hilt : gi < w.heap.size := Blk.lt hgi
    have hgv : VBlk W gv vs := Blk.upd hgv hU (fun f => f)
    have hgi : VBlk W gi ms := Blk.upd hgi hU (fun f => f)
    have hp := PtK.upd hU (fun _ _ _ f => f) p KA kc hp
    have HSV := Lib.hid (@shp_var p)
    have HSO := Lib.hid (@shp_op p)
    have HIV := Lib.hid (@occI_var p s0 m n hsh)
    have HIO := Lib.hid (@occI_op p)
    have HOV := Lib.hid (fun h => @occ_var p h s)
    have HOO := Lib.hid (fun h => @occ_op p h s)
    have HND := Lib.hid ((shp_nodes _ _ _ _ hsh).2 p (by rw [nodes_eq]; simp))
    have HSH := Lib.hid hsh
    obtain ⟨RV, HRV⟩ := nm (occ p s)
    obtain ⟨RI, HRI⟩ := nm (occI p)
    rw [HRV.out, HRI.out]
    have c0 := hb.cell 0
    have c1 := hb.cell 1
    have c3 := hb.cell 3
    have c4 := hb.cell 4
    have h2U : Upd (fun k => k = gv ∨ k = gi) w W := hU.mono (fun _ _ f => f.elim)
    unfold pv
    obtain ⟨v, Hv⟩ := nm p.v
    obtain ⟨op, Hop⟩ := nm p.op
    obtain ⟨imm, Him⟩ := nm p.imm
    obtain ⟨iv, Hiv⟩ := nm p.iv
    obtain ⟨k, Hk⟩ := nm p.kids.length
    rw [Hv.out] at c0 e0 hb
    rw [Hop.out] at c1 e0 hb
    rw [Him.out] at e0 hb
    rw [Hiv.out] at c3 e0 hb HND
    rw [Hk.out] at c4 e0 hb HND
    rw [Hv.out, Hop.out, Him.out, Hiv.out, Hk.out]
    obtain ⟨vn, Hvn⟩ := nm vs.length
    obtain ⟨mn, Hmn⟩ := nm ms.length
    rw [Hvn.out] at hvl ⊢
    rw [Hmn.out] at hml ⊢
    subst hvl
    subst hml
    clear ih hsh
    by_cases hv : v = 0
    · subst hv
      have hso : (oSortsF op).2.2 = true ∧ k = (oSortsF op).1.length ∧ shpL p.kids (oSortsF op).1 m n = true := by
        have h := HSH.out
        rw [HSO.out Hv.out, Bool.and_eq_true, decide_eq_true_eq, Hop.out, Hk.out] at h
        exact ⟨h.1.1, h.1.2.1, h.2⟩
      obtain ⟨ho, hk, hsl⟩ := hso
      obtain ⟨_, hk3, hrs⟩ := rs_parts ho
      obtain ⟨_, hivr, _⟩ := HND.out
      have hivr := hivr (by omega)
      obtain ⟨j, rfl⟩ : ∃ j : Nat, iv = (j : Int) := Int.eq_ofNat_of_zero_le hivr.1
      have hjm : j < ms.length := by rw [Hmn.out]; omega
      have hRI : Hid (RI = (j : Int) :: occIL p.kids) := by show _ = _; rw [← HRI.out, HIO.out Hv.out, Hiv.out]
      have hRV : Hid (RV = occL p.kids (oSortsF op).1) := by show _ = _; rw [← HRV.out, HOO.out Hv.out, Hop.out]
      have hkk : k ≤ 3 := by omega
      have HSL := Lib.hid hsl
      have HRS : Hid (∀ i, i < k → (rsF op).1.getD i 0 = (oSortsF op).1.getD i 0) := fun i hi => by rw [hrs i (by omega), getD_of (by omega : i < (oSortsF op).1.length)]
      have hz := VBlk.cell hgi hjm
      have hfr := Blk.frozen hgi
      obtain ⟨W2, HW2⟩ := nm (W.setCell ⟨gi, j, none⟩ (.int .i64 1))
      have hgi2 : VBlk W2 gi (ms.set j 1) := by rw [← HW2.out]; exact VBlk.set_ hgi j 1
      have u2 : Upd (· = gi) W W2 := by rw [← HW2.out]; exact updCell _ _ _ _
      have e2 := HW2.out
      have hgv2 : VBlk W2 gv vs := Blk.upd hgv u2 hne
      have hb2 := hb.upd u2 (by omega)
      have hp2 := PtK.upd u2 (fun q _ hq e => hFi (by rw [← e]; exact hq)) p KA kc hp
      have hs2 := u2.size
      have HU2 : Upd (fun q => q = gv ∨ q = gi) w W2 := h2U.trans u2 (fun q _ h => .inr h)
      have d1 := hb2.cell 1
      have d4 := hb2.cell 4
      have CS := Lib.hid (rlSorts_c op W2)
      clear HSV HSO HIV HIO HOV HOO HND HSH HRV HRI hrs ho hk3 hsl hb hp hgv hgi hk
      go_enter Try.func47, Try.ntmps47
      go_wp2_with fail
      refine CS.out.mono ?_
      rintro e w3 ⟨rfl, u3⟩
      obtain ⟨l3, Hl3⟩ := nm (rsF op).1
      have hl3 := rs_len op
      have ha3 := arr3_cells (rsF op).1 hl3
      rw [Hl3.out] at hl3 ha3 HRS
      rw [Hl3.out]
      obtain ⟨x0, Hx0⟩ := nm (l3.getD 0 0)
      obtain ⟨x1, Hx1⟩ := nm (l3.getD 1 0)
      obtain ⟨x2, Hx2⟩ := nm (l3.getD 2 0)
      rw [Hx0.out, Hx1.out, Hx2.out] at ha3
      rw [Hx0.out, Hx1.out, Hx2.out]
      have HA3 := Lib.hid ha3
      obtain ⟨W4, HW4⟩ := nm (w3.alloc (.cells #[.int .i64 x0, .int .i64 x1, .int .i64 x2] 92))
      have e4 := HW4.out
      have u4 : Upd Non w3 W4 := by rw [← e4]; exact Upd.refl.alloc _
      have hb4 : Blk W4 w3.heap.size 92 (icells l3).toArray := by rw [← ha3, ← e4]; exact Blk.new _ _ _
      have u24 := u3.then_non u4
      have hb2 := hb2.upd u24 (fun f => f)
      have hs3 := u3.size
      have d4 := hb2.cell 4
      have hgi4 : VBlk W4 gi (ms.set j 1) := Blk.upd hgi2 u24 (fun f => f)
      have hgv4 : VBlk W4 gv vs := Blk.upd hgv2 u24 (fun f => f)
      have hp4 := PtK.upd u24 (fun _ _ _ f => f) p KA kc hp2
      have HU4 := HU2.then_non u24
      have HSS : Hid (ss_ok p.kids (oSortsF op).1 m n) := HSL.out
      have HM0 : Hid ((ms.set j 1).length = m + 1 ∧ vs.length = n + 1) := ⟨by rw [List.length_set, Hmn.out], Hvn.out⟩
      obtain ⟨ss, Hss⟩ := nm (oSortsF op).1
      rw [Hss.out] at HSS HRS hRV
      have hgi4 := Lib.hid hgi4
      have hgv4 := Lib.hid hgv4
      obtain ⟨ms1, Hms1⟩ := nm (ms.set j 1)
      rw [Hms1.out] at HM0 hgi4
      have hl3k : k ≤ l3.length := by omega
      have hsz4 : W4.heap.size = w3.heap.size + 1 := by rw [← HW4.out]; simp
      clear CS ha3 hgi2 hgv2 hp2 hz hfr HSL hl3 hb2 d1
      go_wp2_with fail
      go_loopg [10, 11, 36] k (fun g _ _ i wr => ∃ q : Nat, Hid (g = k - q) ∧ q ≤ k ∧ i = .int .i64 q ∧ Hid (VBlk wr gv (colV (occL (p.kids.take q) ss) vs)) ∧ Hid (VBlk wr gi (colI (occIL (p.kids.take q)) ms1)) ∧ Upd (fun q => q = gv ∨ q = gi) W4 wr)
      case atStart => exact ⟨0, rfl, by omega, rfl, hgv4.out, hgi4.out, Upd.refl⟩
      case round =>
        obtain ⟨q, Hg, hq, rfl, HV, HM, hu⟩ := hrel
        by_cases hlt : q < k
        · have hql : q < p.kids.length := by rw [Hk.out]; exact hlt
          obtain ⟨b, o, rfl, hF, hbw, KB, kd, h0, h1, h2, h3, h4, h5⟩ := (PtK.upd hu (fun q _ hq e => by rcases e with rfl | rfl; exact hFv hq; exact hFi hq) p KA kc hp4).at_ hql
          have HTK : Hid (p.kids.take (q + 1) = p.kids.take q ++ [p.kids[q]] ∧ (p.kids.take q).length = q) := ⟨take_snoc' hql, by rw [List.length_take]; omega⟩
          have hmem := List.getElem_mem hql
          have hsk := shpL_at hql HSS.out
          generalize p.kids[q] = t at *
          have hb4r := hb4.upd hu (by omega)
          have a0 := arr3_get hb4r (i := q) (by omega)
          have HRQ := Lib.hid (HRS.out q hlt)
          obtain ⟨sq, Hsq⟩ := nm (l3.getD q 0)
          rw [Hsq.out] at a0 HRQ
          obtain ⟨W5, HW5⟩ := nm (wr.alloc (.cells #[.int .i64 t.v, .int .i64 t.op, .int .i64 t.imm, .int .i64 t.iv, .slice KB t.kids.length kd] 30))
          have e5 := HW5.out
          have u5 : Upd Non wr W5 := by rw [← e5]; exact Upd.refl.alloc _
          have bt : Blk W5 wr.heap.size 30 #[.int .i64 t.v, .int .i64 t.op, .int .i64 t.imm, .int .i64 t.iv, .slice KB t.kids.length kd] := by rw [← e5]; exact Blk.new _ _ _
          obtain ⟨wD, HwD⟩ := nm W5.drew
          have uD : Upd Non W5 wD := by rw [← HwD.out]; exact Upd.refl.drew
          have u6 := u5.then_non uD
          have hsu := hu.size
          have hs5 := u5.size
          have C1 := Lib.hid (HI.out t hmem wD F KB kd gv c gi d sq (ss.getD q 0) m n (colV (occL (p.kids.take q) ss) vs) (colI (occIL (p.kids.take q)) ms1) (PtK.upd u6 (fun _ _ _ f => f) _ _ _ h5) hFv hFi hne (Blk.upd HV.out u6 (fun f => f)) (Blk.upd HM.out u6 (fun f => f)) hsk (by rw [colV_len, HM0.out.2]) (by rw [colI_len, HM0.out.1]) hn hm)
          rw [colV_len, colI_len, HM0.out.1, HM0.out.2] at C1
          unfold pv at C1
          have HV2 : Hid (colV (occ t sq) (colV (occL (p.kids.take q) ss) vs) = colV (occL (p.kids.take (q + 1)) ss) vs) := by show _ = _; rw [HTK.out.1, occL_snoc, HTK.out.2, colV_snoc, HRQ.out]
          have HM2 : Hid (colI (occI t) (colI (occIL (p.kids.take q)) ms1) = colI (occIL (p.kids.take (q + 1))) ms1) := by show _ = _; rw [HTK.out.1, occIL_snoc, colI_snoc]
          rw [HV2.out, HM2.out] at C1
          have SS : ∀ w', Upd (fun q => q = gv ∨ q = gi) W5 w' → w'.cell? ⟨wr.heap.size, 0, none⟩ = some (.int .i64 t.v) ∧ w'.cell? ⟨wr.heap.size, 1, none⟩ = some (.int .i64 t.op) ∧ w'.cell? ⟨wr.heap.size, 2, none⟩ = some (.int .i64 t.imm) ∧ w'.cell? ⟨wr.heap.size, 3, none⟩ = some (.int .i64 t.iv) ∧ w'.cell? ⟨wr.heap.size, 4, none⟩ = some (.slice KB t.kids.length kd) ∧ w'.cell? ⟨w3.heap.size, q, none⟩ = some (.int .i64 sq) := fun w' u =>
            ⟨cell_upd (bt.cell 0) u (by omega), cell_upd (bt.cell 1) u (by omega), cell_upd (bt.cell 2) u (by omega), cell_upd (bt.cell 3) u (by omega), cell_upd (bt.cell 4) u (by omega), cell_upd (cell_upd a0 u5 (fun f => f)) u (by omega)⟩
          have HS := Lib.hid SS
          have q0 := bt.cell 0
          have q1 := bt.cell 1
          have q2 := bt.cell 2
          have q3 := bt.cell 3
          have q4 := bt.cell 4
          have hq3 : (q : Int) < 3 := by omega
          have hq0 : (0 : Int) ≤ (q : Int) := by omega
          clear SS h5 HV HM bt HTK hmem hsk
          go_wp2_with fail
          refine wp_region_held_drew (S := fun w' => w'.cell? ⟨wr.heap.size, 0, none⟩ = some (.int .i64 t.v) ∧ w'.cell? ⟨wr.heap.size, 1, none⟩ = some (.int .i64 t.op) ∧ w'.cell? ⟨wr.heap.size, 2, none⟩ = some (.int .i64 t.imm) ∧ w'.cell? ⟨wr.heap.size, 3, none⟩ = some (.int .i64 t.iv) ∧ w'.cell? ⟨wr.heap.size, 4, none⟩ = some (.slice KB t.kids.length kd) ∧ w'.cell? ⟨w3.heap.size, q, none⟩ = some (.int .i64 sq)) (by kernel_rfl) (by rw [HwD.out]; exact HS.out _ (uD.mono (fun _ _ f => f.elim))) (fun hHeld => ?_)
          rw [HwD.out] at hHeld ⊢
          refine wpAnyH_take (i := 0) (v := ?_) rfl (by kernel_rfl) (by kernel_rfl) (by kernel_rfl) (fun _ _ _ h => h) (Or.inl ⟨by rfl, ?_⟩) (by assumption) ?_
          rotate_left
          · intro w hSw; (try dsimp only at hSw); go_simp; try with_reducible rfl
          try simp only [put_y]
          try simp only [Act.put]
          try simp only [put_z]
          refine wpAnyH_take (i := 1) (v := ?_) rfl (by kernel_rfl) (by kernel_rfl) (by kernel_rfl) (fun _ _ _ h => h) (Or.inl ⟨by rfl, ?_⟩) (by assumption) ?_
          rotate_left
          · intro w hSw; (try dsimp only at hSw); go_simp; try with_reducible rfl
          try simp only [put_y]
          try simp only [Act.put]
          try simp only [put_z]
          refine wpAnyH_take (i := 2) (v := ?_) rfl (by kernel_rfl) (by kernel_rfl) (by kernel_rfl) (fun _ _ _ h => h) (Or.inl ⟨by rfl, ?_⟩) (by assumption) ?_
          rotate_left
          · intro w hSw; (try dsimp only at hSw); go_simp; try with_reducible rfl
          try simp only [put_y]
          try simp only [Act.put]
          try simp only [put_z]
          refine wpAnyH_take (i := 3) (v := ?_) rfl (by kernel_rfl) (by kernel_rfl) (by kernel_rfl) (fun _ _ _ h => h) (Or.inl ⟨by rfl, ?_⟩) (by assumption) ?_
          rotate_left
          · intro w hSw; (try dsimp only at hSw); go_simp; try with_reducible rfl
          try simp only [put_y]
          try simp only [Act.put]
          try simp only [put_z]
          refine wpAnyH_take (i := 4) (v := ?_) rfl (by kernel_rfl) (by kernel_rfl) (by kernel_rfl) (fun _ _ _ h => h) (Or.inl ⟨by rfl, ?_⟩) (by assumption) ?_
          rotate_left
          · intro w hSw; (try dsimp only at hSw); go_simp; try with_reducible rfl
          try simp only [put_y]
          try simp only [Act.put]
          try simp only [put_z]
          refine wpAnyH_take (i := 5) (v := ?_) rfl (by kernel_rfl) (by kernel_rfl) (by kernel_rfl) (fun _ _ _ h => h) (Or.inl ⟨by rfl, ?_⟩) (by assumption) ?_
          rotate_left
          · intro w hSw; (try dsimp only at hSw); go_simp; try with_reducible rfl
          try simp only [put_y]
          try simp only [Act.put]
          try simp only [put_z]
          refine wpAnyH_ready (rs := [6]) (by kernel_rfl) (by simp) ?_
          refine AllReadyH.cons rfl (fun K hK => ?_) AllReadyH.nil
          go_simp
          refine C1.out.mono ?_
          rintro e w7 ⟨rfl, hv7, hm7, hu7⟩
          have u7 : Upd (fun q => q = gv ∨ q = gi) W5 w7 := (uD.mono (T := fun q => q = gv ∨ q = gi) (fun _ _ f => f.elim)).trans hu7 (fun _ _ h => h)
          have HV7 := Lib.hid hv7
          have HM7 := Lib.hid hm7
          go_wp2_with fail
          refine hK.out _ _ ?_ (fun hHeld => ?_)
          · exact HS.out _ u7
          clear hK K
          try simp only [put_y]
          try simp only [Act.put]
          try simp only [put_z]
          refine wpAnyH_done (by kernel_rfl) ?_ _
          have HU7 : Upd (fun q => q = gv ∨ q = gi) W4 w7 := (hu.then_non u5).trans u7 (fun _ _ h => h)
          clear hv7 hm7 C1 HS
          go_wp2_with fail
          go_roundg (k - (q + 1))
          case measure => rw [Hg.out]; omega
          case rel => exact ⟨q + 1, rfl, by omega, by go_num, HV7.out, HM7.out, HU7⟩
        · obtain rfl : k = q := by omega
          have HT : Hid (p.kids.take k = p.kids) := List.take_of_length_le (by rw [Hk.out]; exact Nat.le_refl _)
          rw [HT.out] at HV HM
          have HU := HU4.trans hu (fun _ _ h => h)
          go_wp2_with fail
          go_end0
          rw [hRV.out, hRI.out]
          refine ⟨rfl, HV.out, ?_, HU⟩
          show VBlk _ gi (colI (occIL p.kids) (ms.set (j : Int).toNat 1))
          rw [Int.toNat_natCast, Hms1.out]
          exact HM.out
    · have hsv : 1 ≤ v ∧ v ≤ n := by
        have h := HSH.out
        rw [HSV.out (by rw [Hv.out]; exact hv), decide_eq_true_eq, Hv.out] at h
        omega
      obtain ⟨j, rfl⟩ : ∃ j : Nat, v = (j : Int) := Int.eq_ofNat_of_zero_le (by omega)
      have hjn : j < vs.length := by rw [Hvn.out]; omega
      have hRI : Hid (RI = []) := by show _ = _; rw [← HRI.out]; exact HIV.out (by rw [Hv.out]; exact hv)
      have hRV : Hid (RV = [((j : Int), s)]) := by show _ = _; rw [← HRV.out, HOV.out (by rw [Hv.out]; exact hv), Hv.out]
      have hz := VBlk.cell hgv hjn
      have hfr := Blk.frozen hgv
      have hset := VBlk.set_ hgv j (orB (vs.getD j 0) s)
      obtain ⟨z, Hz⟩ := nm (vs.getD j 0)
      rw [Hz.out] at hz hset
      unfold orB at hset
      have hj0 : (0 : Int) < (j : Int) := by omega
      clear HSV HSO HIV HIO HOV HOO HND HSH HRV HRI hb
      go_enter Try.func47, Try.ntmps47
      go_wp2_with fail
      refine bodyPost_ret (results_none rfl _ _ _) rfl ?_
      rw [hRV.out, hRI.out]
      refine ⟨rfl, ?_, Blk.upd hgi (updCell _ _ _ _) (fun e => hne e.symm), h2U.trans (updCell _ _ _ _) (fun q _ e => .inl e)⟩
      show VBlk _ gv (vs.set (j : Int).toNat (orB (vs.getD (j : Int).toNat 0) s))
      rw [Int.toNat_natCast, Hz.out]
      exact hset
end Go.Proofs.Ytblkgjdhaibhgaa
