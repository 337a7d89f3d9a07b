/-
  Lemmas and walks that the claim rests on, part 12 (packed by a program).
-/
import Derived.Test.YtblkgjdhaibhgaaZ6
import Derived.Test.YtblkgjdhaibhgaaZ10
import Derived.Test.YtblkgjdhaibhgaaZ11
import Derived.Test.YtblkgjdhaibhgaaZ8
import Derived.Test.YtblkgjdhaibhgaaZ1
import Derived.Test.YtblkgjdhaibhgaaRows
import Derived.ProofKit
import Derived.OpenShut
import Derived.SizedLaws
namespace Go.Proofs.Ytblkgjdhaibhgaa
open Go.RowKit
theorem T_boolsX : SlT Try.prog 81 4 1 1 := by
 obtain ⟨i, h1, h2, h3, h4⟩ := info_parts (show (Try.prog.info? 4).map (fun i => (i.zero, i.size, i.bytes)) = some (some (.bool false), 1, 1) from by kernel_rfl)
 exact ⟨Try.underlying81, ⟨i, _, h1, h2, h3, h4, rfl⟩, by omega⟩
theorem zero_boolX : (Try.prog.info? 4).bind (·.zero) = some (.bool false) := by kernel_rfl
theorem VBlk.new0 (w : World) (n : Nat) : VBlk (w.alloc (.cells (Array.replicate (n + 1) (.int .i64 0)) 3)) w.heap.size (0 :: List.replicate n 0) := by
 unfold VBlk
 rw [show (icells (0 :: List.replicate n 0)).toArray = Array.replicate (n + 1) (Value.int .i64 0) by rw [← List.replicate_succ]; simp [icells]]
 exact Blk.new _ _ _
set_option maxRecDepth 100000 in
set_option maxHeartbeats 4000000 in
theorem validRule_c (r : Rl) (a : RlA) (F : Nat → Prop) (w : World) (hk : RlK w F r a) (hz : RlSz r) :
  Calls Try.prog 13 #[rlv r a] w fun e w' => e = .returned (.bool (refF r)) ∧ Upd Non w w' := by
 obtain ⟨W, HW⟩ := nm (w.alloc (.cells (rlCells r a) 33))
 have hU : Upd Non w W := by rw [← HW.out]; exact Upd.refl.alloc _
 have hb : Blk W w.heap.size 33 (rlCells r a) := by rw [← HW.out]; exact Blk.new _ _ _
 have hsz : W.heap.size = w.heap.size + 1 := by rw [← HW.out]; simp
 have e0 := HW.out
 have hK := (hk.mono (G := fun k => k < w.heap.size) (fun _ h _ => h)).upd hU (fun _ _ _ f => f)
 have HC := Lib.hid (fun (w' : World) (u : Upd Non W w') => rl_cells (hb.upd u (fun f => f)))
 obtain ⟨c0, c1, c2, c3, c4, c5, c6, c7, c8, c9, c10, c11, c12, c13⟩ := HC.out W Upd.refl
 have CN := Lib.hid (fun w' => r15validName_c r.name w' hz.n)
 have CSL := Lib.hid (fun (w' : World) (u : Upd Non W w') => r15Size_c r.l w' _ a.la a.lc (PtK.upd u (fun _ _ _ f => f) _ _ _ hK.l) hz.l)
 have CSR := Lib.hid (fun (w' : World) (u : Upd Non W w') => r15Size_c r.r w' _ a.ra a.rc (PtK.upd u (fun _ _ _ f => f) _ _ _ hK.r) hz.r)
 have HZ := Lib.hid hz
 have HK := Lib.hid hK
 unfold pv at CSL CSR
 unfold rlv
 unfold rlCells at e0 ⊢
 obtain ⟨R, HR⟩ := nm (refF r)
 rw [HR.out]
 have HR1 : Hid (R = refF r) := HR.out.symm
 unfold refF at HR1
 clear hk hz hK HR hb
 obtain ⟨vn, Hvn⟩ := nm (nameF r.name)
 rw [Hvn.out] at CN HR1
 obtain ⟨b1, f1⟩ : ∃ b, decide (r.vars < 0) = b := ⟨_, rfl⟩
 obtain ⟨b2, f2⟩ : ∃ b, decide (6 < r.vars) = b := ⟨_, rfl⟩
 obtain ⟨b3, f3⟩ : ∃ b, decide (r.imms < 0) = b := ⟨_, rfl⟩
 obtain ⟨b4, f4⟩ : ∃ b, decide (6 < r.imms) = b := ⟨_, rfl⟩
 obtain ⟨b6, f6⟩ : ∃ b, decide ((6 : Int) < (r.conds.length : Int)) = b := ⟨_, rfl⟩
 have F1 := Lib.hid f1
 have F2 := Lib.hid f2
 have F3 := Lib.hid f3
 have F4 := Lib.hid f4
 have F6 := Lib.hid f6
 go_enter Try.func13, Try.ntmps13
 go_upto_region 1 with fail
 go_cut [38] (fun t wx => t = .bool (b1 || b2 || b3 || b4 || !vn || b6) ∧ Upd Non W wx)
 case first =>
  cases b1 with
  | true => go_wp2_with fail; go_meet; exact ⟨rfl, Upd.refl⟩
  | false => cases b2 with
   | true => go_wp2_with fail; go_meet; exact ⟨rfl, Upd.refl⟩
   | false => cases b3 with
    | true => go_wp2_with fail; go_meet; exact ⟨rfl, Upd.refl⟩
    | false => cases b4 with
     | true => go_wp2_with fail; go_meet; exact ⟨rfl, Upd.refl⟩
     | false =>
      go_wp2_with fail
      refine (CN.out _).mono ?_
      rintro e w3 ⟨rfl, q3, rfl⟩
      have u3 : Upd Non W (W.drewN q3) := Upd.refl.drewN _
      cases vn with
      | false => go_wp2_with fail; go_meet; exact ⟨rfl, u3⟩
      | true => go_wp2_with fail; go_meet; exact ⟨by cases b6 <;> rfl, u3⟩
 case rest =>
 obtain ⟨w1, rfl⟩ : ∃ w1 : World, w1 = wc := ⟨_, rfl⟩
 obtain ⟨rfl, u1⟩ := hcut
 clear c0 c1 c2 c3 c4 c5 c6 c7 c8 c9 c10 c11 c12 c13
 obtain ⟨c0, c1, c2, c3, c4, c5, c6, c7, c8, c9, c10, c11, c12, c13⟩ := HC.out _ u1
 clear f1 f2 f3 f4 f6
 cases hT : (b1 || b2 || b3 || b4 || !vn || b6) with
 | true =>
  have HF : Hid (R = false) := by
   show _ = _
   rw [HR1.out]
   rw [show (decide (0 ≤ r.vars ∧ r.vars ≤ 6 ∧ 0 ≤ r.imms ∧ r.imms ≤ 6) && vn && decide (r.conds.length ≤ 6)) = false from ?_]
   ·
    simp
   ·
    rw [Bool.eq_false_iff]
    intro q
    simp only [Bool.and_eq_true, decide_eq_true_eq] at q
    obtain ⟨⟨⟨q1, q2, q3, q4⟩, q5⟩, q6⟩ := q
    rw [← F1.out, ← F2.out, ← F3.out, ← F4.out, ← F6.out, q5] at hT
    simp at hT
    omega
  have HU := hU.then_non u1
  clear hT
  go_wp2_with fail
  go_ret
  exact ⟨by rw [HF.out]; rfl, HU⟩
 | false =>
  obtain ⟨hv, h6, hvn⟩ : (0 ≤ r.vars ∧ r.vars ≤ 6 ∧ 0 ≤ r.imms ∧ r.imms ≤ 6) ∧ r.conds.length ≤ 6 ∧ vn = true := by
   rw [← F1.out, ← F2.out, ← F3.out, ← F4.out, ← F6.out] at hT
   simp only [Bool.or_eq_false_iff, decide_eq_false_iff_not, Bool.not_eq_false'] at hT
   obtain ⟨⟨⟨⟨⟨q1, q2⟩, q3⟩, q4⟩, q5⟩, q6⟩ := hT
   exact ⟨by omega, by omega, q5⟩
  subst hvn
  rw [decide_eq_true hv, decide_eq_true h6] at HR1
  have H6 := Lib.hid h6
  have HT := Lib.hid hT
  clear h6 hT CN F1 F2 F3 F4 F6
  obtain ⟨n, Hn⟩ : ∃ n : Nat, Hid (r.vars = (n : Int)) := Int.eq_ofNat_of_zero_le hv.1
  obtain ⟨m, Hm⟩ : ∃ m : Nat, Hid (r.imms = (m : Int)) := Int.eq_ofNat_of_zero_le hv.2.2.1
  have hn6 : n ≤ 6 := by have := Hn.out; omega
  have hm6 : m ≤ 6 := by have := Hm.out; omega
  have HVN : Hid (r.vars.toNat = n) := by show _ = _; rw [Hn.out]; rfl
  rw [HVN.out, Hm.out] at HR1
  rw [show ((m : Int)).toNat = m from rfl] at HR1
  clear hv
  obtain ⟨d0, g0⟩ : ∃ b, (r.l.v != 0) = b := ⟨_, rfl⟩
  obtain ⟨d1, g1⟩ : ∃ b, decide ((24 : Int) < (r.l.size : Int)) = b := ⟨_, rfl⟩
  obtain ⟨d2, g2⟩ : ∃ b, decide ((24 : Int) < (r.r.size : Int)) = b := ⟨_, rfl⟩
  have G0 := Lib.hid g0
  have G1 := Lib.hid g1
  have G2 := Lib.hid g2
  go_upto_region 3 with fail
  go_cut [54] (fun t wx => t = .bool (d0 || d1 || d2) ∧ Upd Non W wx)
  case first =>
   cases d0 with
   | true => go_wp2_with fail; go_meet; exact ⟨rfl, u1⟩
   | false =>
    go_wp2_with fail
    refine (CSL.out _ u1).mono ?_
    rintro e w2 ⟨rfl, u2⟩
    have U2 := u1.then_non u2
    obtain ⟨c0, c1, c2, c3, c4, c5, c6, c7, c8, c9, c10, c11, c12, c13⟩ := HC.out _ U2
    cases d1 with
    | true => go_wp2_with fail; go_meet; exact ⟨rfl, U2⟩
    | false =>
     go_wp2_with fail
     refine (CSR.out _ U2).mono ?_
     rintro e w3 ⟨rfl, u3⟩
     go_wp2_with fail
     go_meet
     exact ⟨by cases d2 <;> rfl, U2.then_non u3⟩
  case rest =>
  obtain ⟨w2, rfl⟩ : ∃ w2 : World, w2 = wc := ⟨_, rfl⟩
  obtain ⟨rfl, u2⟩ := hcut
  clear c0 c1 c2 c3 c4 c5 c6 c7 c8 c9 c10 c11 c12 c13 u1 g0 g1 g2
  obtain ⟨c0, c1, c2, c3, c4, c5, c6, c7, c8, c9, c10, c11, c12, c13⟩ := HC.out _ u2
  cases hT : (d0 || d1 || d2) with
  | true =>
   have HF : Hid (R = false) := by
    show _ = _
    rw [HR1.out, decide_eq_false]
    ·
     simp
    ·
     rintro ⟨q1, q2, q3⟩
     rw [← G0.out, ← G1.out, ← G2.out, q1] at hT
     simp at hT
     omega
   have HU := hU.then_non u2
   clear hT
   go_wp2_with fail
   go_ret
   exact ⟨by rw [HF.out]; rfl, HU⟩
  | false =>
   have hq : r.l.v = 0 ∧ r.l.size ≤ 24 ∧ r.r.size ≤ 24 := by
    rw [← G0.out, ← G1.out, ← G2.out] at hT
    simp only [Bool.or_eq_false_iff, decide_eq_false_iff_not, bne_eq_false_iff_eq] at hT
    obtain ⟨⟨q1, q2⟩, q3⟩ := hT
    exact ⟨q1, by omega, by omega⟩
   rw [decide_eq_true hq] at HR1
   have HT2 := Lib.hid hT
   clear hT hq CSL CSR G0 G1 G2
   have hmkN := fun w => run_mk (P := Try.prog) T_ints' zero_int_ rfl (n + 1) (by omega) (by omega) w
   rw [show ((n + 1 : Nat) : Int) = (n : Int) + 1 by omega] at hmkN
   have hmkB := fun w => run_mk (P := Try.prog) T_boolsX zero_boolX rfl (n + 1) (by omega) (by omega) w
   rw [show ((n + 1 : Nat) : Int) = (n : Int) + 1 by omega] at hmkB
   have hmkC := fun w => run_mk (P := Try.prog) T_boolsX zero_boolX rfl (m + 1) (by omega) (by omega) w
   rw [show ((m + 1 : Nat) : Int) = (m : Int) + 1 by omega] at hmkC
   rw [Hn.out] at c12
   rw [Hm.out] at c13
   have HSZ : Hid (r.l.size ≤ 1000000000000 ∧ r.r.size ≤ 1000000000000) := ⟨HZ.out.l, HZ.out.r⟩
   obtain ⟨w3, Hw3⟩ := nm (w2.alloc (.cells (Array.replicate (n + 1) (.int .i64 0)) 3))
   have ew3 := Hw3.out
   have uA : Upd Non w2 w3 := by rw [← ew3]; exact Upd.refl.alloc _
   have hgA : VBlk w3 w2.heap.size (0 :: List.replicate n 0) := by rw [← ew3]; exact VBlk.new0 _ _
   have u3 := u2.then_non uA
   have hs2 := u2.size
   have hsA : w3.heap.size = w2.heap.size + 1 := by rw [← ew3]; simp
   clear c0 c1 c2 c3 c4 c5 c6 c7 c8 c9 c10 c11
   go_wp2_with fail
   obtain ⟨wD, HwD⟩ := nm w3.drew
   have uD : Upd Non w3 wD := by rw [← HwD.out]; exact Upd.refl.drew
   have vD := u3.then_non uD
   have HS : ∀ w', Upd Non W w' → (w'.cell? ⟨w.heap.size, 1, none⟩ = some (.int .i64 r.l.v) ∧ w'.cell? ⟨w.heap.size, 2, none⟩ = some (.int .i64 r.l.op) ∧ w'.cell? ⟨w.heap.size, 3, none⟩ = some (.int .i64 r.l.imm) ∧ w'.cell? ⟨w.heap.size, 4, none⟩ = some (.int .i64 r.l.iv) ∧ w'.cell? ⟨w.heap.size, 5, none⟩ = some (.slice a.la r.l.kids.length a.lc) ∧ w'.cell? ⟨w.heap.size, 6, none⟩ = some (.int .i64 r.r.v) ∧ w'.cell? ⟨w.heap.size, 7, none⟩ = some (.int .i64 r.r.op) ∧ w'.cell? ⟨w.heap.size, 8, none⟩ = some (.int .i64 r.r.imm) ∧ w'.cell? ⟨w.heap.size, 9, none⟩ = some (.int .i64 r.r.iv) ∧ w'.cell? ⟨w.heap.size, 10, none⟩ = some (.slice a.ra r.r.kids.length a.rc) ∧ w'.cell? ⟨w.heap.size, 13, none⟩ = some (.int .i64 m)) := fun w' u => by
    obtain ⟨c0, c1, c2, c3, c4, c5, c6, c7, c8, c9, c10, c11, c12, c13⟩ := HC.out w' u
    rw [Hm.out] at c13
    exact ⟨c1, c2, c3, c4, c5, c6, c7, c8, c9, c10, c13⟩
   have HS := Lib.hid HS
   have hFg : ¬ (fun k => k < w.heap.size) w2.heap.size := by show ¬ w2.heap.size < w.heap.size; omega
   have C2 := Lib.hid (r15fits_c r.l wD _ a.la a.lc w2.heap.size (n + 1) 0 m (List.replicate n 0) (PtK.upd vD (fun _ _ _ f => f) _ _ _ HK.out.l) hFg (Blk.upd hgA uD (fun f => f)) HSZ.out.1 (by simp; omega) (by omega))
   rw [List.length_replicate] at C2
   have hl1 : (vPt r.l 0 m (List.replicate n 0)).2.length = n := by rw [vPt_len, List.length_replicate]
   obtain ⟨p1, Hp1⟩ := nm (vPt r.l 0 m (List.replicate n 0)).1
   obtain ⟨v1, Hv1⟩ := nm (vPt r.l 0 m (List.replicate n 0)).2
   rw [Hp1.out, Hv1.out] at C2 HR1
   rw [Hv1.out] at hl1
   have HL1 := Lib.hid hl1
   unfold pv at C2
   clear hl1 hgA
   go_wp2_with fail
   refine wp_region_held_drew (S := fun w' => w'.cell? ⟨w.heap.size, 1, none⟩ = some (.int .i64 r.l.v) ∧ w'.cell? ⟨w.heap.size, 2, none⟩ = some (.int .i64 r.l.op) ∧ w'.cell? ⟨w.heap.size, 3, none⟩ = some (.int .i64 r.l.imm) ∧ w'.cell? ⟨w.heap.size, 4, none⟩ = some (.int .i64 r.l.iv) ∧ w'.cell? ⟨w.heap.size, 5, none⟩ = some (.slice a.la r.l.kids.length a.lc) ∧ w'.cell? ⟨w.heap.size, 6, none⟩ = some (.int .i64 r.r.v) ∧ w'.cell? ⟨w.heap.size, 7, none⟩ = some (.int .i64 r.r.op) ∧ w'.cell? ⟨w.heap.size, 8, none⟩ = some (.int .i64 r.r.imm) ∧ w'.cell? ⟨w.heap.size, 9, none⟩ = some (.int .i64 r.r.iv) ∧ w'.cell? ⟨w.heap.size, 10, none⟩ = some (.slice a.ra r.r.kids.length a.rc) ∧ w'.cell? ⟨w.heap.size, 13, none⟩ = some (.int .i64 m)) (by kernel_rfl) (by rw [HwD.out]; exact HS.out _ vD) (fun hHeld => ?_)
   rw [HwD.out] at hHeld ⊢
   refine wpT 0 ?_
   try simp only [put_y]
   try simp only [Act.put]
   try simp only [put_z]
   refine wpT 1 ?_
   try simp only [put_y]
   try simp only [Act.put]
   try simp only [put_z]
   refine wpT 2 ?_
   try simp only [put_y]
   try simp only [Act.put]
   try simp only [put_z]
   refine wpT 3 ?_
   try simp only [put_y]
   try simp only [Act.put]
   try simp only [put_z]
   refine wpT 4 ?_
   try simp only [put_y]
   try simp only [Act.put]
   try simp only [put_z]
   refine wpAnyH_ready (rs := [5]) (by kernel_rfl) (by simp) ?_
   refine AllReadyH.cons rfl (fun K hK => ?_) AllReadyH.nil
   go_simp
   refine C2.out.mono ?_
   rintro e w5 ⟨rfl, hg5, u5⟩
   have U5 : Upd Non W w5 := vD.trans u5 (fun i hi h => by omega)
   have HG5 := Lib.hid hg5
   clear hg5 C2
   go_wp2_with fail
   refine hK.out _ _ ?_ (fun hHeld => ?_)
   ·
    exact HS.out _ U5
   clear hK K
   try simp only [put_y]
   try simp only [Act.put]
   try simp only [put_z]
   cases p1 with
   | false =>
    refine wpT 6 ?_
    try simp only [put_y]
    try simp only [Act.put]
    try simp only [put_z]
    refine wpT 7 ?_
    try simp only [put_y]
    try simp only [Act.put]
    try simp only [put_z]
    refine wpU 8 ?_
    try simp only [put_y]
    try simp only [Act.put]
    try simp only [put_z]
    refine wpU 9 ?_
    try simp only [put_y]
    try simp only [Act.put]
    try simp only [put_z]
    refine wpU 10 ?_
    try simp only [put_y]
    try simp only [Act.put]
    try simp only [put_z]
    refine wpU 11 ?_
    try simp only [put_y]
    try simp only [Act.put]
    try simp only [put_z]
    refine wpU 12 ?_
    try simp only [put_y]
    try simp only [Act.put]
    try simp only [put_z]
    refine wpU 13 ?_
    try simp only [put_y]
    try simp only [Act.put]
    try simp only [put_z]
    refine wpU 14 ?_
    try simp only [put_y]
    try simp only [Act.put]
    try simp only [put_z]
    refine wpU 15 ?_
    try simp only [put_y]
    try simp only [Act.put]
    try simp only [put_z]
    refine wpU 16 ?_
    try simp only [put_y]
    try simp only [Act.put]
    try simp only [put_z]
    refine wpU 17 ?_
    try simp only [put_y]
    try simp only [Act.put]
    try simp only [put_z]
    refine wpU 18 ?_
    try simp only [put_y]
    try simp only [Act.put]
    try simp only [put_z]
    refine wpT 19 ?_
    try simp only [put_y]
    try simp only [Act.put]
    try simp only [put_z]
    refine wpAnyH_done (by kernel_rfl) ?_ _
    have HF : Hid (R = false) := by show _ = _; rw [HR1.out]; simp
    have HU := hU.then_non U5
    go_wp2_with fail
    go_ret
    exact ⟨by rw [HF.out]; rfl, HU⟩
   | true =>
    have C3 := Lib.hid (fun (w' : World) (u : Upd Non w5 w') => r15fits_c r.r w' _ a.ra a.rc w2.heap.size (n + 1) (pSortF r.l.op) m v1 (PtK.upd (U5.then_non u) (fun _ _ _ f => f) _ _ _ HK.out.r) hFg (Blk.upd HG5.out u (fun f => f)) HSZ.out.2 (by rw [HL1.out]; omega) (by omega))
    rw [HL1.out] at C3
    have CP := Lib.hid (fun (w' : World) => pSort_c r.l.op w')
    obtain ⟨so, Hso⟩ := nm (pSortF r.l.op)
    rw [Hso.out] at C3 HR1 CP
    have hl2 : (vPt r.r so m v1).2.length = n := by rw [vPt_len, HL1.out]
    obtain ⟨p2, Hp2⟩ := nm (vPt r.r so m v1).1
    obtain ⟨v2, Hv2⟩ := nm (vPt r.r so m v1).2
    rw [Hp2.out, Hv2.out] at C3 HR1
    rw [Hv2.out] at hl2
    have HL2 := Lib.hid hl2
    unfold pv at C3
    clear hl2
    refine wpT 6 ?_
    try simp only [put_y]
    try simp only [Act.put]
    try simp only [put_z]
    refine wpT 7 ?_
    try simp only [put_y]
    try simp only [Act.put]
    try simp only [put_z]
    refine wpT 8 ?_
    try simp only [put_y]
    try simp only [Act.put]
    try simp only [put_z]
    refine wpT 9 ?_
    try simp only [put_y]
    try simp only [Act.put]
    try simp only [put_z]
    refine wpT 10 ?_
    try simp only [put_y]
    try simp only [Act.put]
    try simp only [put_z]
    refine wpT 11 ?_
    try simp only [put_y]
    try simp only [Act.put]
    try simp only [put_z]
    refine wpT 12 ?_
    try simp only [put_y]
    try simp only [Act.put]
    try simp only [put_z]
    refine wpAnyH_takeC (i := 13) (v := ?v1) rfl (by kernel_rfl) (by kernel_rfl) (by kernel_rfl) (fun _ _ _ h => h) ⟨by rfl, ?f1, ?a1, ?r1, ?c1⟩ (by assumption) ?m1
    case r1 => intro w; go_simp; constructor <;> with_reducible rfl
    case c1 => intro W hSw; refine (CP.out W).mono ?_; rintro e w' ⟨rfl, rfl⟩; constructor <;> with_reducible rfl
    try simp only [put_y]
    try simp only [Act.put]
    try simp only [put_z]
    refine wpT 14 ?_
    try simp only [put_y]
    try simp only [Act.put]
    try simp only [put_z]
    refine wpT 15 ?_
    try simp only [put_y]
    try simp only [Act.put]
    try simp only [put_z]
    refine wpT 16 ?_
    try simp only [put_y]
    try simp only [Act.put]
    try simp only [put_z]
    refine wpAnyH_ready (rs := [17]) (by kernel_rfl) (by simp) ?_
    refine AllReadyH.cons rfl (fun K hK => ?_) AllReadyH.nil
    go_simp
    refine (C3.out _ Upd.refl).mono ?_
    rintro e w7 ⟨rfl, hg7, u7⟩
    have U7 : Upd Non W w7 := U5.trans u7 (fun i hi h => by omega)
    have HG7 := Lib.hid hg7
    clear hg7 C3
    go_wp2_with fail
    refine hK.out _ _ ?_ (fun hHeld => ?_)
    ·
     exact HS.out _ U7
    clear hK K
    try simp only [put_y]
    try simp only [Act.put]
    try simp only [put_z]
    refine wpT 18 ?_
    try simp only [put_y]
    try simp only [Act.put]
    try simp only [put_z]
    refine wpT 19 ?_
    try simp only [put_y]
    try simp only [Act.put]
    try simp only [put_z]
    refine wpAnyH_done (by kernel_rfl) ?_ _
    cases p2 with
    | false =>
     have HF : Hid (R = false) := by show _ = _; rw [HR1.out]; simp
     have HU := hU.then_non U7
     go_wp2_with fail
     go_ret
     exact ⟨by rw [HF.out]; rfl, HU⟩
    | true =>
     obtain ⟨x1, Hx1⟩ := nm (((markV (nodes r.l) (List.replicate (n + 1) false)).drop 1).all id)
     obtain ⟨x2, Hx2⟩ := nm (((markI (nodes r.l) (List.replicate (m + 1) false)).drop 1).all id)
     obtain ⟨x3, Hx3⟩ := nm (r.conds.all fun c => condF c (0 :: v2) (m : Int))
     rw [Hx1.out, Hx2.out, Hx3.out] at HR1
     have HR2 : Hid (R = (x1 && (x2 && x3))) := by show _ = _; rw [HR1.out]; simp [Bool.and_assoc]
     have HVL1 : Hid ((markV (nodes r.l) (List.replicate (n + 1) false)).length = n + 1) := by show _ = _; rw [Go.Proofs.Ytblkgjdhaibhgaa.markV_len, List.length_replicate]
     have HIL1 : Hid ((markI (nodes r.l) (List.replicate (m + 1) false)).length = m + 1) := by show _ = _; rw [Go.Proofs.Ytblkgjdhaibhgaa.markI_len, List.length_replicate]
     have HB1 : Hid (x1 = true ↔ ∀ i : Nat, 1 ≤ i → i ≤ n → (markV (nodes r.l) (List.replicate (n + 1) false)).getD i false = true) := by
      show _ ↔ _
      rw [← Hx1.out, all_drop (d := false) HVL1.out]
      rfl
     have HB2 : Hid (x2 = true ↔ ∀ i : Nat, 1 ≤ i → i ≤ m → (markI (nodes r.l) (List.replicate (m + 1) false)).getD i false = true) := by
      show _ ↔ _
      rw [← Hx2.out, all_drop (d := false) HIL1.out]
      rfl
     obtain ⟨w8, Hw8⟩ := nm (w7.alloc (.cells (Array.replicate (n + 1) (.bool false)) 4))
     have ew8 := Hw8.out
     have u8 : Upd Non w7 w8 := by rw [← ew8]; exact Upd.refl.alloc _
     have hgp : BBlk w8 w7.heap.size (List.replicate (n + 1) false) := by rw [← ew8]; exact BBlk.new _ _
     have hs8 : w8.heap.size = w7.heap.size + 1 := by rw [← ew8]; simp
     obtain ⟨w9, Hw9⟩ := nm (w8.alloc (.cells (Array.replicate (m + 1) (.bool false)) 4))
     have ew9 := Hw9.out
     have u9 : Upd Non w8 w9 := by rw [← ew9]; exact Upd.refl.alloc _
     have hgi : BBlk w9 (w7.heap.size + 1) (List.replicate (m + 1) false) := by rw [← ew9, ← hs8]; exact BBlk.new _ _
     have hgp9 : BBlk w9 w7.heap.size (List.replicate (n + 1) false) := Blk.upd hgp u9 (fun f => f)
     have U8 := U7.then_non u8
     have U9 := U8.then_non u9
     have hs7 := U7.size
     have hFp : ¬ (fun k => k < w.heap.size) w7.heap.size := by show ¬ w7.heap.size < w.heap.size; omega
     have hFi : ¬ (fun k => k < w.heap.size) (w7.heap.size + 1) := by show ¬ w7.heap.size + 1 < w.heap.size; omega
     have C4 := Lib.hid (r15occurring_c r.l w9 _ a.la a.lc w7.heap.size (n + 1) (w7.heap.size + 1) (m + 1) (List.replicate (n + 1) false) (List.replicate (m + 1) false) (PtK.upd U9 (fun _ _ _ f => f) _ _ _ HK.out.l) hFp hFi (by omega) hgp9 hgi HSZ.out.1)
     rw [List.length_replicate, List.length_replicate] at C4
     obtain ⟨V1, HV1⟩ := nm (markV (nodes r.l) (List.replicate (n + 1) false))
     obtain ⟨I1, HI1⟩ := nm (markI (nodes r.l) (List.replicate (m + 1) false))
     rw [HV1.out] at C4 HVL1 HB1
     rw [HI1.out] at C4 HIL1 HB2
     unfold pv at C4
     obtain ⟨_, _, _, _, _, _, _, _, _, _, _, _, d12, _⟩ := HC.out _ U7
     rw [Hn.out] at d12
     obtain ⟨_, _, _, _, _, _, _, _, _, _, _, _, _, d13⟩ := HC.out _ U8
     rw [Hm.out] at d13
     obtain ⟨_, f1, f2, f3, f4, f5, _, _, _, _, _, _, _, _⟩ := HC.out _ U9
     clear hgp hgi hgp9 HR1 c12 c13
     go_wp2_with fail
     refine C4.out.mono ?_
     rintro e wA ⟨rfl, hgp, hgi, uA⟩
     have UA : Upd Non W wA := U9.trans uA (fun i hi h => by omega)
     have HU := hU.then_non UA
     have HGA : Hid (VBlk wA w2.heap.size (0 :: v2)) := by
      have h1 := Blk.upd HG7.out u8 (fun f => f)
      have h2 := Blk.upd h1 u9 (fun f => f)
      exact Blk.upd h2 uA (by have := Blk.lt HG7.out; omega)
     clear C4 d12 d13 f1 f2 f3 f4 f5 hmkN hmkB hmkC
     go_wp2_with fail
     go_loopg [6] n (fun g i wr => ∃ k : Nat, Hid (g = n + 1 - k) ∧ 1 ≤ k ∧ k ≤ n + 1 ∧ i = .int .i64 k ∧ Hid (∀ j : Nat, 1 ≤ j → j < k → V1.getD j false = true) ∧ wA = wr)
     case atStart => exact ⟨1, by show _ = _; omega, by omega, by omega, rfl, fun j h1 h2 => by omega, rfl⟩
     case round =>
      obtain ⟨k, Hg, hk1, hk2, rfl, HA, rfl⟩ := hrel
      by_cases hlt : k < n + 1
      ·
       have t3 : decide ((k : Int) < (n : Int) + 1) = true := decide_eq_true (by omega)
       have hkN : (k : Int) < (n : Int) + 1 := by omega
       have hk0 : (0 : Int) ≤ (k : Int) := by omega
       have z1 := BBlk.cell hgp (i := k) (by rw [HVL1.out]; omega)
       obtain ⟨z, Hz⟩ := nm (V1.getD k false)
       rw [Hz.out] at z1
       cases z with
       | false =>
        have hb : x1 = false := by
         rw [Bool.eq_false_iff]
         intro q
         have := HB1.out.1 q k hk1 (by omega)
         rw [Hz.out] at this
         cases this
        have HF : Hid (R = false) := by show _ = _; rw [HR2.out, hb]; simp
        clear hb
        go_wp2_with fail
        go_ret
        exact ⟨by rw [HF.out]; rfl, HU⟩
       | true =>
        have HA2 : Hid (∀ j : Nat, 1 ≤ j → j < k + 1 → V1.getD j false = true) := by
         intro j j1 j2
         by_cases e : j = k
         ·
          rw [e]; exact Hz.out
         ·
          exact HA.out j j1 (by omega)
        go_wp2_with fail
        go_roundg (n + 1 - (k + 1))
        case measure => rw [Hg.out]; omega
        case rel => exact ⟨k + 1, rfl, by omega, by omega, by go_num, HA2, rfl⟩
      ·
       have t3 : decide ((k : Int) < (n : Int) + 1) = false := decide_eq_false (by omega)
       have hb1 : x1 = true := HB1.out.2 (fun i i1 i2 => HA.out i i1 (by omega))
       subst hb1
       have HR3 : Hid (R = (x2 && x3)) := by show _ = _; rw [HR2.out]; rfl
       clear HA Hg hk1 hk2 hlt
       go_wp2_with fail
       go_loopg [7] m (fun g i wr => ∃ k : Nat, Hid (g = m + 1 - k) ∧ 1 ≤ k ∧ k ≤ m + 1 ∧ i = .int .i64 k ∧ Hid (∀ j : Nat, 1 ≤ j → j < k → I1.getD j false = true) ∧ wA = wr)
       case atStart => exact ⟨1, by show _ = _; omega, by omega, by omega, rfl, fun j h1 h2 => by omega, rfl⟩
       case round =>
        obtain ⟨k, Hg, hk1, hk2, rfl, HA, rfl⟩ := hrel
        by_cases hlt : k < m + 1
        ·
         have t3 : decide ((k : Int) < (m : Int) + 1) = true := decide_eq_true (by omega)
         have hkN : (k : Int) < (m : Int) + 1 := by omega
         have hk0 : (0 : Int) ≤ (k : Int) := by omega
         have z1 := BBlk.cell hgi (i := k) (by rw [HIL1.out]; omega)
         obtain ⟨z, Hz⟩ := nm (I1.getD k false)
         rw [Hz.out] at z1
         cases z with
         | false =>
          have hb : x2 = false := by
           rw [Bool.eq_false_iff]
           intro q
           have := HB2.out.1 q k hk1 (by omega)
           rw [Hz.out] at this
           cases this
          have HF : Hid (R = false) := by show _ = _; rw [HR3.out, hb]; simp
          clear hb
          go_wp2_with fail
          go_ret
          exact ⟨by rw [HF.out]; rfl, HU⟩
         | true =>
          have HA2 : Hid (∀ j : Nat, 1 ≤ j → j < k + 1 → I1.getD j false = true) := by
           intro j j1 j2
           by_cases e : j = k
           ·
            rw [e]; exact Hz.out
           ·
            exact HA.out j j1 (by omega)
          go_wp2_with fail
          go_roundg (m + 1 - (k + 1))
          case measure => rw [Hg.out]; omega
          case rel => exact ⟨k + 1, rfl, by omega, by omega, by go_num, HA2, rfl⟩
        ·
         have t3 : decide ((k : Int) < (m : Int) + 1) = false := decide_eq_false (by omega)
         have hb1 : x2 = true := HB2.out.2 (fun i i1 i2 => HA.out i i1 (by omega))
         subst hb1
         have HR4 : Hid (R = (x3)) := by show _ = _; rw [HR3.out]; rfl
         clear HA Hg hk1 hk2 hlt
         obtain ⟨cn, Hcn⟩ := nm r.conds.length
         have hcn := H6.out
         rw [Hcn.out] at hcn
         go_wp2_with fail
         go_loopg [8] cn (fun g i wr => ∃ q : Nat, Hid (g = cn - q) ∧ q ≤ cn ∧ i = .int .i64 q ∧ Hid (∀ j (h : j < r.conds.length), j < q → condF r.conds[j] (0 :: v2) (m : Int) = true) ∧ Upd Non wA wr)
         case atStart => exact ⟨0, rfl, by omega, rfl, fun j h1 h2 => by omega, Upd.refl⟩
         case round =>
          obtain ⟨q, Hg, hq, rfl, HA, hu⟩ := hrel
          have HUC := UA.then_non hu
          by_cases hlt : q < cn
          ·
           have hql : q < r.conds.length := by rw [Hcn.out]; exact hlt
           have hcv := HK.out.c.upd HUC (fun _ _ _ f => f)
           obtain ⟨cb, co, ecA, hF, hcb, k0, k1, k2, k3⟩ := hcv.at_ hql
           have hcond : Hid (∀ b, condF r.conds[q] (0 :: v2) (m : Int) = b → (b = false → R = false) ∧ (b = true → ∀ j (h : j < r.conds.length), j < q + 1 → condF r.conds[j] (0 :: v2) (m : Int) = true)) := by
            intro b hb
            refine ⟨fun h => ?_, fun h j hj1 hj2 => ?_⟩
            ·
             rw [HR4.out, ← Hx3.out, Bool.eq_false_iff]
             intro h2
             rw [List.all_eq_true] at h2
             have := h2 _ (List.getElem_mem hql)
             rw [hb, h] at this; cases this
            ·
             by_cases e : j = q
             ·
              subst e; rw [hb, h]
             ·
              exact HA.out j hj1 (by omega)
           generalize r.conds[q] = x at *
           obtain ⟨wE, HwE⟩ := nm wr.drew
           have uE : Upd Non wr wE := by rw [← HwE.out]; exact Upd.refl.drew
           have UE := HUC.then_non uE
           have HS3 : Hid (∀ w', Upd Non wr w' → (w'.cell? ⟨w.heap.size, 11, none⟩ = some (.slice (some ⟨cb, co, none⟩) cn a.cc) ∧ w'.cell? ⟨w.heap.size, 13, none⟩ = some (.int .i64 m) ∧ w'.cell? ⟨cb, co + q * 4, none⟩ = some (.int .i64 x.kind) ∧ w'.cell? ⟨cb, co + q * 4 + 1, none⟩ = some (.int .i64 x.a) ∧ w'.cell? ⟨cb, co + q * 4 + 2, none⟩ = some (.int .i64 x.b) ∧ w'.cell? ⟨cb, co + q * 4 + 3, none⟩ = some (.int .i64 x.n))) := fun w' u => by
            obtain ⟨_, _, _, _, _, _, _, _, _, _, _, d11, _, d13⟩ := HC.out _ (HUC.then_non u)
            rw [ecA, Hcn.out] at d11
            rw [Hm.out] at d13
            exact ⟨d11, d13, cell_upd k0 u (fun f => f), cell_upd k1 u (fun f => f), cell_upd k2 u (fun f => f), cell_upd k3 u (fun f => f)⟩
           have CC := Lib.hid (r15validCond_c x (0 :: v2) (m : Int) (some ⟨w2.heap.size, 0, none⟩) (n + 1) (fun _ => True) wE (VBlk.ints (Blk.upd (Blk.upd HGA.out hu (fun f => f)) uE (fun f => f))))
           rw [List.length_cons, HL2.out] at CC
           obtain ⟨cr, Hcr⟩ := nm (condF x (0 :: v2) (m : Int))
           rw [Hcr.out] at CC hcond
           have HCD := Lib.hid (hcond.out cr rfl)
           have hq0 : (0 : Int) ≤ (q : Int) := by omega
           have hqn : (q : Int) < (cn : Int) := by omega
           obtain ⟨d11, d13, _⟩ := HS3.out wr Upd.refl
           have t5 : decide (q < cn) = true := decide_eq_true hlt
           clear hcv hcond k0 k1 k2 k3 HA
           go_wp2_with fail
           refine wp_region_held_drew (S := fun w' => w'.cell? ⟨w.heap.size, 11, none⟩ = some (.slice (some ⟨cb, co, none⟩) cn a.cc) ∧ w'.cell? ⟨w.heap.size, 13, none⟩ = some (.int .i64 m) ∧ w'.cell? ⟨cb, co + q * 4, none⟩ = some (.int .i64 x.kind) ∧ w'.cell? ⟨cb, co + q * 4 + 1, none⟩ = some (.int .i64 x.a) ∧ w'.cell? ⟨cb, co + q * 4 + 2, none⟩ = some (.int .i64 x.b) ∧ w'.cell? ⟨cb, co + q * 4 + 3, none⟩ = some (.int .i64 x.n)) (by kernel_rfl) (by rw [HwE.out]; exact HS3.out _ uE) (fun hHeld => ?_)
           rw [HwE.out] at hHeld ⊢
           refine wpT 0 ?_
           try simp only [put_y]
           try simp only [Act.put]
           try simp only [put_z]
           refine wpT 1 ?_
           try simp only [put_y]
           try simp only [Act.put]
           try simp only [put_z]
           refine wpT 2 ?_
           try simp only [put_y]
           try simp only [Act.put]
           try simp only [put_z]
           refine wpT 3 ?_
           try simp only [put_y]
           try simp only [Act.put]
           try simp only [put_z]
           refine wpT 4 ?_
           try simp only [put_y]
           try simp only [Act.put]
           try simp only [put_z]
           refine wpT 5 ?_
           try simp only [put_y]
           try simp only [Act.put]
           try simp only [put_z]
           refine wpT 6 ?_
           try simp only [put_y]
           try simp only [Act.put]
           try simp only [put_z]
           refine wpT 7 ?_
           try simp only [put_y]
           try simp only [Act.put]
           try simp only [put_z]
           refine wpAnyH_ready (rs := [8]) (by kernel_rfl) (by simp) ?_
           refine AllReadyH.cons rfl (fun K hK => ?_) AllReadyH.nil
           go_simp
           refine CC.out.mono ?_
           rintro e wG ⟨rfl, uG⟩
           go_wp2_with fail
           refine hK.out _ _ ?_ (fun hHeld => ?_)
           ·
            exact HS3.out _ (uE.then_non uG)
           clear hK K
           try simp only [put_y]
           try simp only [Act.put]
           try simp only [put_z]
           refine wpT 9 ?_
           try simp only [put_y]
           try simp only [Act.put]
           try simp only [put_z]
           refine wpAnyH_done (by kernel_rfl) ?_ _
           have HU11 := (hu.then_non uE).then_non uG
           have HU := HU.then_non HU11
           cases cr with
           | false =>
            have HF : Hid (R = false) := HCD.out.1 rfl
            go_wp2_with fail
            go_ret
            exact ⟨by rw [HF.out]; rfl, HU⟩
           | true =>
            have HA2 := Lib.hid (HCD.out.2 rfl)
            go_wp2_with fail
            simp only [← ecA]
            go_roundg (cn - (q + 1))
            case measure => rw [Hg.out]; omega
            case rel => exact ⟨q + 1, rfl, by omega, by go_num, HA2.out, HU11⟩
          ·
           obtain rfl : cn = q := by omega
           have HF : Hid (R = true) := by
            show _ = _
            rw [HR4.out, ← Hx3.out, List.all_eq_true]
            intro c hc
            obtain ⟨j, hj, rfl⟩ := List.mem_iff_getElem.1 hc
            exact HA.out j hj (by rw [← Hcn.out]; exact hj)
           have HU := HU.then_non hu
           obtain ⟨_, _, _, _, _, _, _, _, _, _, _, d11, _, _⟩ := HC.out _ HUC
           rw [Hcn.out] at d11
           have t5 : decide (cn < cn) = false := by simp
           go_wp2_with fail
           go_ret
           exact ⟨by rw [HF.out]; rfl, HU⟩
end Go.Proofs.Ytblkgjdhaibhgaa
namespace Go.Proofs.Ytblkgjdhaibhgaa
open Go.RowKit
theorem RlsV.three {w : World} {F : Nat → Prop} {g : Nat} {r s t : Rl} {a b c : RlA} (h : Blk w g 33 #[.string r.name, .int .i64 r.l.v, .int .i64 r.l.op, .int .i64 r.l.imm, .int .i64 r.l.iv, .slice a.la r.l.kids.length a.lc, .int .i64 r.r.v, .int .i64 r.r.op, .int .i64 r.r.imm, .int .i64 r.r.iv, .slice a.ra r.r.kids.length a.rc, .slice a.ca r.conds.length a.cc, .int .i64 r.vars, .int .i64 r.imms,
   .string s.name, .int .i64 s.l.v, .int .i64 s.l.op, .int .i64 s.l.imm, .int .i64 s.l.iv, .slice b.la s.l.kids.length b.lc, .int .i64 s.r.v, .int .i64 s.r.op, .int .i64 s.r.imm, .int .i64 s.r.iv, .slice b.ra s.r.kids.length b.rc, .slice b.ca s.conds.length b.cc, .int .i64 s.vars, .int .i64 s.imms,
   .string t.name, .int .i64 t.l.v, .int .i64 t.l.op, .int .i64 t.l.imm, .int .i64 t.l.iv, .slice c.la t.l.kids.length c.lc, .int .i64 t.r.v, .int .i64 t.r.op, .int .i64 t.r.imm, .int .i64 t.r.iv, .slice c.ra t.r.kids.length c.rc, .slice c.ca t.conds.length c.cc, .int .i64 t.vars, .int .i64 t.imms])
  (hr : RlK w F r a) (hs : RlK w F s b) (ht : RlK w F t c) (hF : F g) : RlsV w F (some ⟨g, 0, none⟩) [r, s, t] := by
 refine .inr ⟨g, 0, rfl, hF, fun i hi => ?_⟩
 have : i = 0 ∨ i = 1 ∨ i = 2 := by simp at hi; omega
 rcases this with rfl | rfl | rfl
 ·
  exact ⟨a, ⟨h.cell 0, h.cell 1, h.cell 2, h.cell 3, h.cell 4, h.cell 5, h.cell 6, h.cell 7, h.cell 8, h.cell 9, h.cell 10, h.cell 11, h.cell 12, h.cell 13⟩, hr⟩
 ·
  exact ⟨b, ⟨h.cell 14, h.cell 15, h.cell 16, h.cell 17, h.cell 18, h.cell 19, h.cell 20, h.cell 21, h.cell 22, h.cell 23, h.cell 24, h.cell 25, h.cell 26, h.cell 27⟩, hs⟩
 ·
  exact ⟨c, ⟨h.cell 28, h.cell 29, h.cell 30, h.cell 31, h.cell 32, h.cell 33, h.cell 34, h.cell 35, h.cell 36, h.cell 37, h.cell 38, h.cell 39, h.cell 40, h.cell 41⟩, ht⟩
def rl3W (w : World) (r : Rl) (a : RlA) (s : Rl) (b : RlA) (t : Rl) (c : RlA) : World := w.alloc (.cells #[.string r.name, .int .i64 r.l.v, .int .i64 r.l.op, .int .i64 r.l.imm, .int .i64 r.l.iv, .slice a.la r.l.kids.length a.lc, .int .i64 r.r.v, .int .i64 r.r.op, .int .i64 r.r.imm, .int .i64 r.r.iv, .slice a.ra r.r.kids.length a.rc, .slice a.ca r.conds.length a.cc, .int .i64 r.vars, .int .i64 r.imms,
   .string s.name, .int .i64 s.l.v, .int .i64 s.l.op, .int .i64 s.l.imm, .int .i64 s.l.iv, .slice b.la s.l.kids.length b.lc, .int .i64 s.r.v, .int .i64 s.r.op, .int .i64 s.r.imm, .int .i64 s.r.iv, .slice b.ra s.r.kids.length b.rc, .slice b.ca s.conds.length b.cc, .int .i64 s.vars, .int .i64 s.imms,
   .string t.name, .int .i64 t.l.v, .int .i64 t.l.op, .int .i64 t.l.imm, .int .i64 t.l.iv, .slice c.la t.l.kids.length c.lc, .int .i64 t.r.v, .int .i64 t.r.op, .int .i64 t.r.imm, .int .i64 t.r.iv, .slice c.ra t.r.kids.length c.rc, .slice c.ca t.conds.length c.cc, .int .i64 t.vars, .int .i64 t.imms] 33)
theorem rl3W_eq (w : World) (r : Rl) (a : RlA) (s : Rl) (b : RlA) (t : Rl) (c : RlA) : w.alloc (.cells #[.string r.name, .int .i64 r.l.v, .int .i64 r.l.op, .int .i64 r.l.imm, .int .i64 r.l.iv, .slice a.la r.l.kids.length a.lc, .int .i64 r.r.v, .int .i64 r.r.op, .int .i64 r.r.imm, .int .i64 r.r.iv, .slice a.ra r.r.kids.length a.rc, .slice a.ca r.conds.length a.cc, .int .i64 r.vars, .int .i64 r.imms,
   .string s.name, .int .i64 s.l.v, .int .i64 s.l.op, .int .i64 s.l.imm, .int .i64 s.l.iv, .slice b.la s.l.kids.length b.lc, .int .i64 s.r.v, .int .i64 s.r.op, .int .i64 s.r.imm, .int .i64 s.r.iv, .slice b.ra s.r.kids.length b.rc, .slice b.ca s.conds.length b.cc, .int .i64 s.vars, .int .i64 s.imms,
   .string t.name, .int .i64 t.l.v, .int .i64 t.l.op, .int .i64 t.l.imm, .int .i64 t.l.iv, .slice c.la t.l.kids.length c.lc, .int .i64 t.r.v, .int .i64 t.r.op, .int .i64 t.r.imm, .int .i64 t.r.iv, .slice c.ra t.r.kids.length c.rc, .slice c.ca t.conds.length c.cc, .int .i64 t.vars, .int .i64 t.imms] 33) = rl3W w r a s b t c := rfl
theorem rl3W_is {w : World} {F : Nat → Prop} {r s t : Rl} {a b c : RlA} (hr : RlK w F r a) (hs : RlK w F s b) (ht : RlK w F t c) : RlsV (rl3W w r a s b t c) (fun k => k = w.heap.size ∨ F k) (some ⟨w.heap.size, 0, none⟩) [r, s, t] ∧ Upd Non w (rl3W w r a s b t c) ∧ (rl3W w r a s b t c).heap.size = w.heap.size + 1 := by
 have u : Upd Non w (rl3W w r a s b t c) := by unfold rl3W; exact Upd.refl.alloc _
 refine ⟨RlsV.three (a := a) (b := b) (c := c) (by unfold rl3W; exact Blk.new _ _ _) ((hr.upd u (fun _ _ _ f => f)).mono fun _ _ h => .inr h) ((hs.upd u (fun _ _ _ f => f)).mono fun _ _ h => .inr h) ((ht.upd u (fun _ _ _ f => f)).mono fun _ _ h => .inr h) (.inl rfl), u, by unfold rl3W; simp⟩
theorem kConds_len (n : Int) (nv : Nat) : (kCondsF n nv).length ≤ 1 := by
 unfold kCondsF
 repeat' split
 all_goals simp
theorem side_size (op : Int) (p : Pt) : (sideF op p).size ≤ 1 + p.size := by
 unfold sideF
 split
 ·
  rw [Pt.size_one]; exact Nat.le_refl _
 ·
  omega
theorem kRule_sz (name : ByteArray) (hn : name.size ≤ 1000) (xs : List Int) : RlSz (kRuleF name xs) := by
 have h1 := patF_size (3 : Nat) false 3 1 xs.tail
 have h2 := (numF_len (patF (3 : Nat) false 3 1 xs.tail).1 [] []).2.2
 have h3 := side_size 21 (numF (patF (3 : Nat) false 3 1 xs.tail).1 [] []).1
 have h4 := patF_size (numF (patF (3 : Nat) false 3 1 xs.tail).1 [] []).2.1.length false 2 1 (patF (3 : Nat) false 3 1 xs.tail).2
 have h5 := kConds_len (xs.headD 0) (numF (patF (3 : Nat) false 3 1 xs.tail).1 [] []).2.1.length
 simp only [kSize] at h1 h4
 unfold kRuleF
 dsimp only
 split
 ·
  exact ⟨by dsimp only; omega, by dsimp only; rw [Pt.size_leaf]; omega, by simp, by dsimp only; omega⟩
 ·
  exact ⟨by dsimp only; omega, by dsimp only; omega, by dsimp only; omega, by dsimp only; omega⟩
end Go.Proofs.Ytblkgjdhaibhgaa
namespace Go.Proofs.Ytblkgjdhaibhgaa
open Go.RowKit
set_option maxRecDepth 100000 in
set_option maxHeartbeats 4000000 in
theorem RuRoundTrip_c (w : World) (F G : Nat → Prop) (A B : Option Addr) (c d : Nat) (xs ys : List Int) (vs : Int) (hx : Ints w F A xs) (hc : xs.length ≤ c) (hI : ∀ x ∈ xs, I64 x) (hn : xs.length ≤ 100000000000000)
  (hy : Ints w G B ys) (hd : ys.length ≤ d) (hJ : ∀ x ∈ ys, I64 x) (hm : ys.length ≤ 100000000000000) :
  Calls Try.prog 4 #[.slice A xs.length c, .slice B ys.length d, .int .i64 vs] w fun e w' => e = .returned (.bool true) ∧ Upd Non w w' := by
 obtain ⟨k, hk⟩ : ∃ k : Nat, vs % 22 = (k : Int) := Int.eq_ofNat_of_zero_le (by omega)
 have hk22 : k < 22 := by omega
 have hal : k < axL.length := hk22
 have hmem : axL[k] ∈ axL := List.getElem_mem hal
 obtain ⟨ra, HAX⟩ := ax_rule hmem
 have HAX := Lib.hid HAX
 have HM := Lib.hid hmem
 have CX := Lib.hid (rAxioms_c w)
 have CR := Lib.hid (fun (w' : World) (u : Upd Non w w') => kRule_c w' F A c xs (kstr [111, 110, 101]) (hx.upd u (fun _ _ _ f => f)) hc hI hn)
 have CS := Lib.hid (fun (w' : World) (u : Upd Non w w') => kRule_c w' G B d ys (kstr [116, 119, 111]) (hy.upd u (fun _ _ _ f => f)) hd hJ hm)
 obtain ⟨r1, Hr1⟩ := nm (kRuleF (kstr [111, 110, 101]) (xs.take 40))
 obtain ⟨r2, Hr2⟩ := nm (kRuleF (kstr [116, 119, 111]) (ys.take 40))
 rw [Hr1.out] at CR
 rw [Hr2.out] at CS
 have HI1 : Hid (∀ x ∈ xs.take 40, I64 x) := fun x hx => hI x (List.mem_of_mem_take hx)
 have HI2 : Hid (∀ x ∈ ys.take 40, I64 x) := fun x hx => hJ x (List.mem_of_mem_take hx)
 have CP := Lib.hid (fun W => pick_c vs 22 W (by omega) (by omega))
 rw [hk] at CP
 have CA := Lib.hid (fun W => rAxiom_c axL[k].1 W)
 obtain ⟨n, Hn⟩ := nm xs.length
 obtain ⟨m, Hm⟩ := nm ys.length
 rw [Hn.out] at CR
 rw [Hm.out] at CS
 rw [Hn.out, Hm.out]
 clear hx hy hc hd hI hJ hn hm hk hmem
 go_enter Try.func4, Try.ntmps4
 go_wp2_with fail
 refine CX.out.mono ?_
 rintro e w1 ⟨A1, c1, rfl, ho1, _, u1⟩
 obtain ⟨g, rfl⟩ := ho1.some_ (by omega)
 have hcell : w1.cell? ⟨g, k, none⟩ = some (.string (kstr axL[k].1)) := by
  rw [ho1.cell_ (i := k) (by simpa [nmCs] using hal)]
  simp [nmCs]
 have hc22 : (22 : Nat) ≤ c1 := ho1.le
 have CP1 := Lib.hid (CP.out w1)
 have CA1 := Lib.hid (CA.out w1)
 obtain ⟨an, Han⟩ := nm (kstr axL[k].1)
 rw [Han.out] at CA1 hcell
 clear CX ho1 CP CA
 go_wp2_with fail
 refine CP1.out.mono ?_
 rintro e w2 ⟨rfl, rfl⟩
 go_wp2_with fail
 refine CA1.out.mono ?_
 rintro e w3 ⟨rl, a, b, rfl, hk3, u3, hb1, hb0⟩
 have hb : b = true := by
  cases b with
  | true => rfl
  | false => have := hb0 rfl; rw [HAX.out.eq] at this; cases this
 subst hb
 have hrl : rl = ra := by have := hb1 rfl; rw [HAX.out.eq] at this; injection this with this; exact this.symm
 subst hrl
 have hu3 := u1.then_non u3
 clear hb0 hb1 CP1 CA1 u1 u3 hcell
 obtain ⟨W4, HW4⟩ := nm (w3.alloc (.cells (rlCells rl a) 33))
 have u4 : Upd Non w3 W4 := by rw [← HW4.out]; exact Upd.refl.alloc _
 have b4 : Blk W4 w3.heap.size 33 (rlCells rl a) := by rw [← HW4.out]; exact Blk.new _ _ _
 have s4 : W4.heap.size = w3.heap.size + 1 := by rw [← HW4.out]; simp
 have e4 := HW4.out
 obtain ⟨wD, HwD⟩ := nm W4.drew
 have uD : Upd Non W4 wD := by rw [← HwD.out]; exact Upd.refl.drew
 have HUD := Lib.hid ((hu3.then_non u4).then_non uD)
 have HB := Lib.hid (b4.upd uD (fun f => f))
 have HK := Lib.hid ((hk3.mono (G := fun k => k < wD.heap.size) (fun k hk _ => by have := (u4.then_non uD).size; omega)).upd (u4.then_non uD) (fun _ _ _ f => f))
 have HSZ3 := Lib.hid (show w3.heap.size < wD.heap.size from (b4.upd uD (fun f => f)).lt)
 unfold rlCells at e4
 unfold rlv rlCells at CR CS
 unfold rlv rlCells
 clear b4 hk3 u4 uD HW4 hu3 s4
 go_upto_region 5 with fail
 have HSS : Hid (∀ w', Upd Non wD w' → w'.cell? ⟨w3.heap.size, 0, none⟩ = some (.string rl.name) ∧ w'.cell? ⟨w3.heap.size, 1, none⟩ = some (.int .i64 rl.l.v) ∧ w'.cell? ⟨w3.heap.size, 2, none⟩ = some (.int .i64 rl.l.op) ∧ w'.cell? ⟨w3.heap.size, 3, none⟩ = some (.int .i64 rl.l.imm) ∧ w'.cell? ⟨w3.heap.size, 4, none⟩ = some (.int .i64 rl.l.iv) ∧ w'.cell? ⟨w3.heap.size, 5, none⟩ = some (.slice a.la rl.l.kids.length a.lc) ∧ w'.cell? ⟨w3.heap.size, 6, none⟩ = some (.int .i64 rl.r.v) ∧ w'.cell? ⟨w3.heap.size, 7, none⟩ = some (.int .i64 rl.r.op) ∧ w'.cell? ⟨w3.heap.size, 8, none⟩ = some (.int .i64 rl.r.imm) ∧ w'.cell? ⟨w3.heap.size, 9, none⟩ = some (.int .i64 rl.r.iv) ∧ w'.cell? ⟨w3.heap.size, 10, none⟩ = some (.slice a.ra rl.r.kids.length a.rc) ∧ w'.cell? ⟨w3.heap.size, 11, none⟩ = some (.slice a.ca rl.conds.length a.cc) ∧ w'.cell? ⟨w3.heap.size, 12, none⟩ = some (.int .i64 rl.vars) ∧ w'.cell? ⟨w3.heap.size, 13, none⟩ = some (.int .i64 rl.imms)) := fun w' u => rl_cells (HB.out.upd u (fun f => f))
 refine wp_region_held_drew (S := fun w' => w'.cell? ⟨w3.heap.size, 0, none⟩ = some (.string rl.name) ∧ w'.cell? ⟨w3.heap.size, 1, none⟩ = some (.int .i64 rl.l.v) ∧ w'.cell? ⟨w3.heap.size, 2, none⟩ = some (.int .i64 rl.l.op) ∧ w'.cell? ⟨w3.heap.size, 3, none⟩ = some (.int .i64 rl.l.imm) ∧ w'.cell? ⟨w3.heap.size, 4, none⟩ = some (.int .i64 rl.l.iv) ∧ w'.cell? ⟨w3.heap.size, 5, none⟩ = some (.slice a.la rl.l.kids.length a.lc) ∧ w'.cell? ⟨w3.heap.size, 6, none⟩ = some (.int .i64 rl.r.v) ∧ w'.cell? ⟨w3.heap.size, 7, none⟩ = some (.int .i64 rl.r.op) ∧ w'.cell? ⟨w3.heap.size, 8, none⟩ = some (.int .i64 rl.r.imm) ∧ w'.cell? ⟨w3.heap.size, 9, none⟩ = some (.int .i64 rl.r.iv) ∧ w'.cell? ⟨w3.heap.size, 10, none⟩ = some (.slice a.ra rl.r.kids.length a.rc) ∧ w'.cell? ⟨w3.heap.size, 11, none⟩ = some (.slice a.ca rl.conds.length a.cc) ∧ w'.cell? ⟨w3.heap.size, 12, none⟩ = some (.int .i64 rl.vars) ∧ w'.cell? ⟨w3.heap.size, 13, none⟩ = some (.int .i64 rl.imms)) (by kernel_rfl) (by rw [HwD.out]; exact HSS.out _ Upd.refl) (fun hHeld => ?_)
 rw [HwD.out] at hHeld ⊢
 refine wpT 0 ?_
 try simp only [put_y]
 try simp only [Act.put]
 try simp only [put_z]
 refine wpT 2 ?_
 try simp only [put_y]
 try simp only [Act.put]
 try simp only [put_z]
 refine wpT 3 ?_
 try simp only [put_y]
 try simp only [Act.put]
 try simp only [put_z]
 refine wpAnyH_ready (rs := [1]) (by kernel_rfl) (by simp) ?_
 refine AllReadyH.cons rfl (fun K hK => ?_) AllReadyH.nil
 go_simp
 refine (CR.out _ HUD.out).mono ?_
 rintro e w5 ⟨a5, rfl, hk5, u5⟩
 have HK5 := Lib.hid hk5
 have HU5 := Lib.hid u5
 clear hk5 u5
 go_wp2_with fail
 refine hK.out _ _ ?_ (fun hHeld => ?_)
 ·
  exact HSS.out _ HU5.out
 clear hK K
 try simp only [put_y]
 try simp only [Act.put]
 try simp only [put_z]
 refine wpAnyH_ready (rs := [4]) (by kernel_rfl) (by simp) ?_
 refine AllReadyH.cons rfl (fun K hK => ?_) AllReadyH.nil
 go_simp
 refine (CS.out _ (HUD.out.then_non HU5.out)).mono ?_
 rintro e w6 ⟨a6, rfl, hk6, u6⟩
 have HK6 := Lib.hid hk6
 have HU6 := Lib.hid u6
 clear hk6 u6
 go_wp2_with fail
 refine hK.out _ _ ?_ (fun hHeld => ?_)
 ·
  exact HSS.out _ (HU5.out.then_non HU6.out)
 clear hK K
 try simp only [put_y]
 try simp only [Act.put]
 try simp only [put_z]
 refine wpAnyH_ready (rs := [5]) (by kernel_rfl) (by simp) ?_
 refine AllReadyH.cons rfl (fun K hK => ?_) AllReadyH.nil
 go_simp
 rw [rl3W_eq]
 have hu5 := HU5.out
 have hu6 := HU6.out
 have z5 := hu5.size
 have z6 := hu6.size
 obtain ⟨V7, u7, z7⟩ := rl3W_is (F := fun k => k < w6.heap.size) ((HK5.out.upd hu6 (fun _ _ _ f => f)).mono fun k hk _ => hk) ((HK.out.upd (hu5.then_non hu6) (fun _ _ _ f => f)).mono fun k hk _ => hk) (HK6.out.mono fun k hk _ => hk)
 obtain ⟨W7, HW7⟩ := nm (rl3W w6 r1 a5 rl a r2 a6)
 rw [HW7.out] at u7 z7 V7 ⊢
 have HU57 := Lib.hid ((hu5.then_non hu6).then_non u7)
 refine hK.out _ _ ?_ (fun hHeld => ?_)
 ·
  exact HSS.out _ HU57.out
 clear hK K
 try simp only [put_y]
 try simp only [Act.put]
 try simp only [put_z]
 refine wpT 6 ?_
 try simp only [put_y]
 try simp only [Act.put]
 try simp only [put_z]
 refine wpAnyH_done (by kernel_rfl) ?_ _
 have HV := Lib.hid V7
 have HU7 := Lib.hid (HUD.out.then_non HU57.out)
 have HRZ : Hid (∀ r ∈ [r1, rl, r2], RlSz r) := fun r hr => by
  simp only [List.mem_cons, List.not_mem_nil, or_false] at hr
  rcases hr with rfl | rfl | rfl
  ·
   rw [← Hr1.out]; exact kRule_sz _ (by rw [kstr_size]; simp) _
  ·
   exact HAX.out.sz
  ·
   rw [← Hr2.out]; exact kRule_sz _ (by rw [kstr_size]; simp) _
 have HRI : Hid (∀ r ∈ [r1, rl, r2], RlI r) := fun r hr => by
  simp only [List.mem_cons, List.not_mem_nil, or_false] at hr
  rcases hr with rfl | rfl | rfl
  ·
   rw [← Hr1.out]; exact kRule_i _ _ HI1.out
  ·
   exact HAX.out.i
  ·
   rw [← Hr2.out]; exact kRule_i _ _ HI2.out
 have CP7 := Lib.hid (rPrint_c W7 _ _ 3 [r1, rl, r2] HV.out HRZ.out HRI.out (by simp))
 have CP8 := Lib.hid (fun W (u : Upd Non W7 W) => rPrint_c W _ _ 3 [r1, rl, r2] (HV.out.upd u (fun _ _ _ f => f)) HRZ.out HRI.out (by simp))
 obtain ⟨b0, o0, x0, hb0, -, -, hat0, hrk0⟩ := V7.at_ (i := 0) (by simp)
 obtain ⟨b2, o2, x2, hb2, -, -, hat2, hrk2⟩ := V7.at_ (i := 2) (by simp)
 injection hb0 with hb0; injection hb0 with hb01 hb02 _; subst hb01 hb02
 injection hb2 with hb2; injection hb2 with hb21 hb22 _; subst hb21 hb22
 have q0 : ([r1, rl, r2] : List Rl)[0]'(by simp) = r1 := rfl
 have q2 : ([r1, rl, r2] : List Rl)[2]'(by simp) = r2 := rfl
 rw [q0] at hat0 hrk0
 rw [q2] at hat2 hrk2
 have HA0 := Lib.hid hat0
 have HA2 := Lib.hid hat2
 have CV0 := Lib.hid (fun W (u : Upd Non W7 W) => validRule_c r1 x0 _ W (hrk0.upd u (fun _ _ _ f => f)) (HRZ.out _ (by simp)))
 have CV2 := Lib.hid (fun W (u : Upd Non W7 W) => validRule_c r2 x2 _ W (hrk2.upd u (fun _ _ _ f => f)) (HRZ.out _ (by simp)))
 unfold rlv rlCells at CV0 CV2
 clear hHeld hat0 hat2 hrk0 hrk2 q0 q2 V7 u7 hu5 hu6 HSS HK HB HK5 HK6 CR CS
 obtain ⟨ps, Hps⟩ := nm (kstr (printF [r1, rl, r2]))
 rw [Hps.out] at CP7 CP8
 go_wp2_with fail
 refine CP7.out.mono ?_
 rintro e w8 ⟨rfl, u8⟩
 have ha0 := HA0.out.upd u8 (fun f => f)
 have CV08 := Lib.hid (CV0.out _ u8)
 have CV28 := Lib.hid (fun W (u : Upd Non w8 W) => CV2.out W (u8.then_non u))
 have HU8 := Lib.hid (HU7.out.then_non u8)
 have HA28 : Hid (∀ W, Upd Non w8 W → RlAt W w6.heap.size (0 + 2 * 14) r2 x2) := fun W u => HA2.out.upd (u8.then_non u) (fun f => f)
 have HIM : Hid (refF r1 = implF r1 ∧ refF r2 = implF r2) := ⟨(imp_ref r1).symm, (imp_ref r2).symm⟩
 obtain ⟨B0, HB0⟩ := nm (refF r1)
 obtain ⟨B2, HB2⟩ := nm (refF r2)
 rw [HB0.out] at CV08
 rw [HB2.out] at CV28
 rw [HB0.out, HB2.out] at HIM
 have CE := Lib.hid (fun W => RuExamples_c W)
 clear HA0 HA2 CV0 CV2 CP7 HUD HU5 HU6
 unfold RlAt at ha0 HA28
 simp only [Nat.zero_mul, Nat.add_zero, Nat.zero_add, Nat.reduceMul, Nat.reduceAdd] at ha0 HA28
 obtain ⟨x0', x1', x2', x3', x4', x5', x6', x7', x8', x9', x10', x11', x12', x13'⟩ := ha0
 cases B0 with
 | false =>
  go_wp2_with fail
  refine CV08.out.mono ?_
  rintro e w9 ⟨rfl, u9⟩
  have HF : Hid (implF r1 = false) := HIM.out.1.symm
  have HMEM : Hid (r1 ∈ [r1, rl, r2]) := by show _ ∈ _; simp
  have HUZ := Lib.hid (HU8.out.then_non u9)
  clear CV28 HA28 CP8 x0' x1' x2' x3' x4' x5' x6' x7' x8' x9' x10' x11' x12' x13'
  have HPE : Hid (ps = kstr []) := by show _ = _; rw [← Hps.out, print_no HMEM.out HF.out]
  have fe : (ps.toList == []) = true := by rw [HPE.out, ktl]; rfl
  clear HF HMEM HPE
  go_wp2_with fail
  refine (CE.out _).mono ?_
  rintro e w11 ⟨rfl, u11⟩
  go_wp2_with fail
  go_ret
  exact ⟨rfl, HUZ.out.then_non u11⟩
 | true =>
  go_wp2_with fail
  refine CV08.out.mono ?_
  rintro e w9 ⟨rfl, u9⟩
  have CV29 := Lib.hid (CV28.out _ u9)
  obtain ⟨y0, y1, y2, y3, y4, y5, y6, y7, y8, y9, y10, y11, y12, y13⟩ := HA28.out _ u9
  have HU9 := Lib.hid u9
  clear CV28 HA28 CV08 x0' x1' x2' x3' x4' x5' x6' x7' x8' x9' x10' x11' x12' x13' u9
  cases B2 with
  | false =>
   go_wp2_with fail
   refine CV29.out.mono ?_
   rintro e w10 ⟨rfl, u10⟩
   have HF : Hid (implF r2 = false) := HIM.out.2.symm
   have HMEM : Hid (r2 ∈ [r1, rl, r2]) := by show _ ∈ _; simp
   have HUZ := Lib.hid ((HU8.out.then_non HU9.out).then_non u10)
   clear CV29 CP8 y0 y1 y2 y3 y4 y5 y6 y7 y8 y9 y10 y11 y12 y13
   have HPE : Hid (ps = kstr []) := by show _ = _; rw [← Hps.out, print_no HMEM.out HF.out]
   have fe : (ps.toList == []) = true := by rw [HPE.out, ktl]; rfl
   clear HF HMEM HPE
   go_wp2_with fail
   refine (CE.out _).mono ?_
   rintro e w11 ⟨rfl, u11⟩
   go_wp2_with fail
   go_ret
   exact ⟨rfl, HUZ.out.then_non u11⟩
  | true =>
   go_wp2_with fail
   refine CV29.out.mono ?_
   rintro e w10 ⟨rfl, u10⟩
   have HU10 := Lib.hid (HU9.out.then_non u10)
   have ok1 : RtOk r1 := ⟨HIM.out.1.symm, by have := kRule_rt (name := kstr [111, 110, 101]) HI1.out (by rw [Hr1.out]; exact HIM.out.1.symm); rwa [Hr1.out] at this⟩
   have ok2 : RtOk r2 := ⟨HIM.out.2.symm, by have := kRule_rt (name := kstr [116, 119, 111]) HI2.out (by rw [Hr2.out]; exact HIM.out.2.symm); rwa [Hr2.out] at this⟩
   obtain ⟨hpar, -⟩ := three_rt HM.out HAX.out ok1 ok2 (by rw [← Hr1.out]; exact kRule_name _ _) (by rw [← Hr2.out]; exact kRule_name _ _) (HRI.out _ (by simp)) (HRI.out _ (by simp))
   have CPA := Lib.hid (rParse_all ps w10)
   rw [← Hps.out, kx_kstr, hpar, Hps.out] at CPA
   clear CV29 y0 y1 y2 y3 y4 y5 y6 y7 y8 y9 y10 y11 y12 y13 ok1 ok2 hpar u10 HIM HU9
   go_wp2_with fail
   refine CPA.out.mono ?_
   rintro e w11 ⟨u11, h⟩
   rcases h with ⟨er, h, _⟩ | ⟨Q, A', c', h, rfl, hv, hle⟩
   ·
    cases h
   injection h with h
   subst h
   obtain ⟨W12, HW12⟩ := nm (w11.alloc (.cells #[.int .i64 0, .int .i64 0] 25))
   have u12 : Upd Non w11 W12 := by rw [← HW12.out]; exact Upd.refl.alloc _
   have b12 : Blk W12 w11.heap.size 25 #[.int .i64 0, .int .i64 0] := by rw [← HW12.out]; exact Blk.new _ _ _
   have z0 := b12.cell 0
   have z1 := b12.cell 1
   have HVY := Lib.hid (hv.upd u12 (fun _ _ _ f => f))
   have HU12 := Lib.hid ((HU10.out.then_non u11).then_non u12)
   have CSR := Lib.hid (sameRules_c [r1, rl, r2] [r1, rl, r2] W12 _ _ _ A' 3 c' (HV.out.upd ((HU10.out.then_non u11).then_non u12 |> (fun u => u8.then_non u)) (fun _ _ _ f => f)) HVY.out HRZ.out (by simp))
   rw [rlsE_refl] at CSR
   have CPY := Lib.hid (fun W (u : Upd Non W12 W) => rPrint_c W _ A' c' [r1, rl, r2] (HVY.out.upd u (fun _ _ _ f => f)) HRZ.out HRI.out (by simp))
   rw [Hps.out] at CPY
   clear CPA b12 hv hle u11 u12 CP8
   go_upto_region 10 with fail
   rw [HW12.out]
   go_wp2_with fail
   refine CSR.out.mono ?_
   rintro e w13 ⟨rfl, u13⟩
   have CPY13 := Lib.hid (CPY.out _ u13)
   go_wp2_with fail
   refine CPY13.out.mono ?_
   rintro e w14 ⟨rfl, u14⟩
   go_wp2_with fail
   refine (CE.out _).mono ?_
   rintro e w15 ⟨rfl, u15⟩
   go_wp2_with fail
   go_ret
   exact ⟨rfl, (((HU8.out.then_non HU12.out).then_non u13).then_non u14).then_non u15⟩
end Go.Proofs.Ytblkgjdhaibhgaa
namespace Go.Proofs.Ytblkgjdhaibhgaa
open Go.RowKit Go.WideShapes Go.ChangeShapes
section
variable {H : Type} {enc : TypeId × Value → H} {P : Program}
theorem post_of_below {f : Func} {s : ChangeSpec} {apart fresh handsOn again : Bool} {W W' : World} {args : Array Value} {v : Value} {ds gs : List (DataW H)} {before pa pv : List MemPlace}
  (hW : DataW.Whole enc P f.params.toList s.vars apart W args.toList ds gs before)
  (hres : ∀ (b : Nat) (sp : Nat → Bool) (hd : Bool), DataW.TrodAll enc P W' b sp hd f.resultTypes.toList (v.resultList f.resultTypes.size) (s.fn H (ds ++ gs)).results [])
  (hargs : ∀ sp : Nat → Bool, (∀ p ∈ before, sp p.block = true) → DataW.TrodAll enc P W' 0 sp true f.params.toList args.toList (s.fn H (ds ++ gs)).args pa)
  (hvars : ∀ sp : Nat → Bool, (∀ p ∈ before, sp p.block = true) → DataW.TrodVars enc P W' sp s.vars (s.fn H (ds ++ gs)).vars pv)
  (hps : before = pa ++ pv) (hb : Below W.heap.size W W')
  (hok : ∀ (j : Nat) (t : TypeId) (r : Value), f.resultTypes[j]? = some t → (v.resultList f.resultTypes.size)[j]? = some r → Value.okWide P W' .any 0 t r) :
  s.post enc P f apart fresh handsOn again W args v W' := by
 have hlt : ∀ p ∈ before, p.block < W.heap.size := fun p hp => hW.lt p hp
 have hold : ∀ p ∈ before, (fun b => decide (b < W.heap.size)) p.block = true := fun p hp => by simpa using hlt p hp
 refine ⟨ds, gs, before, [], pa, pv, hW, hres _ _ _, hargs _ hold, hvars _ hold, World.keptBut_mono (fun p hp => ⟨hp, ?_⟩) (hb.frame (· ∈ before)), fun _ => ?_⟩
 ·
  rw [hps, List.mem_append] at hp
  exact Or.inr hp
 ·
  obtain ⟨_, _, _, _, _, hz, hn⟩ := hW
  refine ⟨hok, _, _, ([] ++ pa) ++ pv, ⟨[] ++ pa, pv, trodAll_append (hargs _ (fun _ _ => rfl)) (hres _ _ _), hvars _ (fun _ _ => rfl), rfl, ?_, ?_⟩, ?_⟩
  ·
   intro b off hp
   have hin : MemPlace.cell b off ∈ before := by rw [hps]; simpa using hp
   rw [hb.frozen (hlt _ hin)]
   exact hz b off hin
  ·
   intro ha
   have := hn ha
   rw [hps] at this
   simpa using this
  ·
   intro p hp _
   rw [hps]
   simpa using hp
theorem trodAll_stays (hl : laidOutB P = true) {W W' : World} {sp : Nat → Bool} : ∀ {ts : List TypeId} {vs : List Value} {ds : List (DataW H)} {ps : List MemPlace},
  (ts.all fun t => P.readableRec t && decide (t < P.types.size)) = true → DataW.TrodAll enc P W 0 (fun _ => true) true ts vs ds ps → (∀ p ∈ ps, W.sameAt W' p) → (∀ p ∈ ps, sp p.block = true) → DataW.TrodAll enc P W' 0 sp true ts vs ds ps
 | [], vs, ds, ps, _, h, _, _ => by
  obtain ⟨rfl, rfl, rfl⟩ := trodAll_nil h
  exact trodAll_mk0
 | t :: ts, vs, ds, ps, ht, h, h1, h2 => by
  obtain ⟨v, vs', d, ds', p, q, rfl, rfl, rfl, hp, hq⟩ := trodAll_cons h
  simp only [List.all_cons, Bool.and_eq_true, decide_eq_true_eq] at ht
  exact trodAll_cons_mk (WideElems.Trod_stays hl ht.1.1 ht.1.2 hp (fun x hx => h1 x (by simp [hx])) (fun x hx => h2 x (by simp [hx])))
   (trodAll_stays hl ht.2 hq (fun x hx => h1 x (by simp [hx])) (fun x hx => h2 x (by simp [hx])))
theorem law_post {f : Func} {s : ChangeSpec} {apart fresh handsOn again : Bool} {W W' : World} {args : Array Value} {ds gs : List (DataW H)} {before : List MemPlace} {tb : TypeId}
  (hW : DataW.Whole enc P f.params.toList s.vars apart W args.toList ds gs before) (hl : laidOutB P = true) (hts : (f.params.toList.all fun t => P.readableRec t && decide (t < P.types.size)) = true) (hv : s.vars = [])
  (hrt : f.resultTypes = #[tb]) (hbool : P.underlying tb = some .bool) (hs : s.fn H (ds ++ gs) = { results := [.lit (.bool true)], args := ds }) (hb : Below W.heap.size W W') :
  s.post enc P f apart fresh handsOn again W args (.bool true) W' := by
 have hW2 := hW
 obtain ⟨p, q, hA, hV, rfl, hz, hn⟩ := hW
 rw [hv] at hV
 obtain ⟨rfl, rfl⟩ := trodVars_none hV
 have hlt : ∀ x ∈ p, x.block < W.heap.size := fun x hx => hW2.lt x (by simpa using hx)
 refine post_of_below (pa := p) (pv := []) hW2 (fun b sp hd => ?_) (fun sp hsp => ?_) (fun sp hsp => ?_) rfl hb ?_
 ·
  rw [hs, hrt]
  exact trodAll_mk1 (shut_bool hbool true)
 ·
  rw [hs]
  exact trodAll_stays hl hts hA (fun x hx => hb.same (hlt x hx)) (fun x hx => hsp x (by simpa using hx))
 ·
  rw [hs, hv]; rfl
 ·
  intro j t r h1 h2
  rw [hrt] at h1 h2
  match j, h1 with
  | 0, h1 =>
   simp at h1
   subst h1
   simp [Value.resultList] at h2
   subst h2
   exact okWide_bool_mk hbool true
end
theorem own_ : ownKnob Try.prog.godebug = none := by kernel_rfl
theorem laidOut_ : laidOutB Try.prog = true := by kernel_rfl
end Go.Proofs.Ytblkgjdhaibhgaa
namespace Go.Proofs.Ytblkgjdhaibhgaa
open Go.RowKit Go.WideShapes Go.ChangeShapes Go.ChangeAt
section
variable {H : Type} {enc : TypeId × Value → H} {P : Program} {w : World}
theorem i64_of_wf {n : Int} (h : (Lit.int .i64 n).wf = true) : I64 n := by
 have h1 : IntKind.i64.min = -9223372036854775808 := rfl
 have h2 : IntKind.i64.max = 9223372036854775807 := rfl
 simp only [Lit.wf, Bool.and_eq_true, decide_eq_true_eq] at h
 unfold I64
 omega
theorem open_i64 {r : Reach} {b0 base : Nat} {sp : Nat → Bool} {held : Bool} {t : TypeId} {v : Value} {d : DataW H} {ps : List MemPlace} (ht : P.underlying t = some (.int .i64)) (hval : Value.okWide P w r b0 t v) (hd : DataW.Trod enc P w base sp held t v d ps) :
  ∃ n, v = .int .i64 n ∧ I64 n := by
 obtain ⟨n, h1, _, _, h2⟩ := open_int ht hval hd
 exact ⟨n, h1, i64_of_wf h2⟩
theorem open_intsV {r : Reach} {b0 base : Nat} {sp : Nat → Bool} {held : Bool} {t e : TypeId} {v : Value} {d : DataW H} {ps : List MemPlace} (ht : P.underlying t = some (.slice e)) (he : P.underlying e = some (.int .i64)) (hc : P.cellsOf e = 1) (hby : P.bytesOf e = 8)
  (hval : Value.okWide P w r b0 t v) (hd : DataW.Trod enc P w base sp held t v d ps)
  {ts : List TypeId} {ds : List (DataW H)} (hsz : (DataW.weightsEach P ts ds).all (· ≤ reachBytes) = true) {j : Nat} (htj : ts[j]? = some t) (hdj : ds[j]? = some d) :
  ∃ A c xs, v = .slice A xs.length c ∧ xs.length ≤ c ∧ Ints w (fun _ => True) A xs ∧ (∀ x ∈ xs, I64 x) ∧ xs.length ≤ 20000000000000 := by
 obtain ⟨a0, len, cap, rfl⟩ := okWide_slice ht hval
 obtain ⟨fuel, hf⟩ := hd
 rcases open_ints ht he hc hf with ⟨hcs, hx⟩ | ⟨a, len', cap', zs, hcs, _, hl, hm, hz, hx, hcell, hwz⟩
 ·
  simp [Value.cells] at hcs
  obtain ⟨rfl, rfl, rfl⟩ := hcs
  exact ⟨none, 0, [], rfl, by simp, .inl rfl, by simp, by simp⟩
 ·
  simp [Value.cells] at hcs
  obtain ⟨rfl, rfl, rfl⟩ := hcs
  simp only [Prod.mk.injEq] at hx
  obtain ⟨rfl, rfl⟩ := hx
  have hzl : len ≤ zs.length := by rw [hz]; split <;> omega
  have hlen : (zs.take len).length = len := by simp; omega
  refine ⟨some a, cap, zs.take len, by rw [hlen], by omega, ?_, fun x hx => i64_of_wf (hwz x (List.mem_of_mem_take hx)), ?_⟩
  ·
   by_cases h0 : len = 0
   ·
    subst h0; exact .inl (by simp)
   ·
    obtain ⟨b, off, spot⟩ := a
    have hspot : spot = none := by simpa [Addr.add] using World.cell?_spot (hcell 0 (by omega))
    subst hspot
    refine .inr ⟨b, off, rfl, trivial, fun k hk => ?_⟩
    have hk' : k < zs.length := by simp at hk; omega
    have := hcell k hk'
    rw [Addr.add_lit] at this
    rw [this]
    simp [List.getD, hk']
  ·
   have := sized_slice hsz htj hdj ht
   rw [hby] at this
   simp only [lits, List.length_map, List.length_take, List.length_drop, reachBytes] at this
   rw [hlen]
   omega
end
theorem cells_int : Try.prog.cellsOf 3 = 1 := by kernel_rfl
theorem bytes_int : Try.prog.bytesOf 3 = 8 := by kernel_rfl
end Go.Proofs.Ytblkgjdhaibhgaa
