/-
  Lemmas and walks that the claim rests on, part 10 (packed by a program).
-/
import Derived.Test.YtblkgjdhaibhgaaGreatA7
import Derived.Test.YtblkgjdhaibhgaaGreatA9
namespace Go.Proofs.YtblkgjdhaibhgaaGreat
open Go.RowKit
theorem T_boolsX : SlT Tryz.prog 101 4 1 1 := by
 obtain ⟨i, h1, h2, h3, h4⟩ := info_parts (show (Tryz.prog.info? 4).map (fun i => (i.zero, i.size, i.bytes)) = some (some (.bool false), 1, 1) from by kernel_rfl)
 exact ⟨Tryz.underlying101, ⟨i, _, h1, h2, h3, h4, rfl⟩, by omega⟩
theorem zero_boolX : (Tryz.prog.info? 4).bind (·.zero) = some (.bool false) := by kernel_rfl
theorem VBlk.new0 (w : World) (n : Nat) : VBlk (w.alloc (.cells (Array.replicate (n + 1) (.int .i64 0)) 3)) w.heap.size (0 :: List.replicate n 0) := by
 unfold VBlk;rw [show (icells (0 :: List.replicate n 0)).toArray = Array.replicate (n + 1) (Value.int .i64 0) by rw [← List.replicate_succ]; simp [icells]];exact Blk.new _ _ _
set_option maxRecDepth 100000 in
set_option maxHeartbeats 4000000 in
theorem validRule_c (r : Rl) (a : RlA) (F : Nat → Prop) (w : World) (hk : RlK w F r a) (hz : RlSz r) :
  Calls Tryz.prog 23 #[rlv r a] w fun e w' => e = .returned (.bool (refF r)) ∧ Upd Non w w' := by
 obtain ⟨W, HW⟩ := nm (w.alloc (.cells (rlCells r a) 43))
 have hU : Upd Non w W := by rw [← HW.out]; exact Upd.refl.alloc _
 have hb : Blk W w.heap.size 43 (rlCells r a) := by rw [← HW.out]; exact Blk.new _ _ _
 have hsz : W.heap.size = w.heap.size + 1 := by rw [← HW.out]; simp
 have e0 := HW.out;have hK := (hk.mono (G := fun k => k < w.heap.size) (fun _ h _ => h)).upd hU (fun _ _ _ f => f);have HC := Lib.hid (fun (w' : World) (u : Upd Non W w') => rl_cells (hb.upd u (fun f => f)));obtain ⟨c0, c1, c2, c3, c4, c5, c6, c7, c8, c9, c10, c11, c12, c13⟩ := HC.out W Upd.refl;have CN := Lib.hid (fun w' => r15validName_c r.name w' hz.n)
 have CSL := Lib.hid (fun (w' : World) (u : Upd Non W w') => r15Size_c r.l w' _ a.la a.lc (PtK.upd u (fun _ _ _ f => f) _ _ _ hK.l) hz.l);have CSR := Lib.hid (fun (w' : World) (u : Upd Non W w') => r15Size_c r.r w' _ a.ra a.rc (PtK.upd u (fun _ _ _ f => f) _ _ _ hK.r) hz.r);have HZ := Lib.hid hz;have HK := Lib.hid hK;unfold pv at CSL CSR;unfold rlv;unfold rlCells at e0 ⊢
 obtain ⟨R, HR⟩ := nm (refF r);rw [HR.out];have HR1 : Hid (R = refF r) := HR.out.symm;unfold refF at HR1;clear hk hz hK HR hb;obtain ⟨vn, Hvn⟩ := nm (nameF r.name);rw [Hvn.out] at CN HR1;obtain ⟨b1, f1⟩ : ∃ b, decide (r.vars < 0) = b := ⟨_, rfl⟩;obtain ⟨b2, f2⟩ : ∃ b, decide (6 < r.vars) = b := ⟨_, rfl⟩;obtain ⟨b3, f3⟩ : ∃ b, decide (r.imms < 0) = b := ⟨_, rfl⟩
 obtain ⟨b4, f4⟩ : ∃ b, decide (6 < r.imms) = b := ⟨_, rfl⟩;obtain ⟨b6, f6⟩ : ∃ b, decide ((6 : Int) < (r.conds.length : Int)) = b := ⟨_, rfl⟩;have F1 := Lib.hid f1;have F2 := Lib.hid f2;have F3 := Lib.hid f3;have F4 := Lib.hid f4;have F6 := Lib.hid f6;go_enter Tryz.func23, Tryz.ntmps23
 go_upto_region 1 with fail
 go_cut [38] (fun t wx => t = .bool (b1 || b2 || b3 || b4 || !vn || b6) ∧ Upd Non W wx)
 case first =>
  cases b1 with
  | true => go_wp2_with fail; go_meet; exact ⟨rfl, Upd.refl⟩
  | false => cases b2 with
   | true => go_wp2_with fail; go_meet; exact ⟨rfl, Upd.refl⟩
   | false => cases b3 with
    | true => go_wp2_with fail; go_meet; exact ⟨rfl, Upd.refl⟩
    | false => cases b4 with
     | true => go_wp2_with fail; go_meet; exact ⟨rfl, Upd.refl⟩
     | false =>
      go_wp2_with fail
      refine (CN.out _).mono ?_;rintro e w3 ⟨rfl, q3, rfl⟩;have u3 : Upd Non W (W.drewN q3) := Upd.refl.drewN _
      cases vn with
      | false => go_wp2_with fail; go_meet; exact ⟨rfl, u3⟩
      | true => go_wp2_with fail; go_meet; exact ⟨by cases b6 <;> rfl, u3⟩
 case rest =>
 obtain ⟨w1, rfl⟩ : ∃ w1 : World, w1 = wc := ⟨_, rfl⟩;obtain ⟨rfl, u1⟩ := hcut;clear c0 c1 c2 c3 c4 c5 c6 c7 c8 c9 c10 c11 c12 c13;obtain ⟨c0, c1, c2, c3, c4, c5, c6, c7, c8, c9, c10, c11, c12, c13⟩ := HC.out _ u1;clear f1 f2 f3 f4 f6
 cases hT : (b1 || b2 || b3 || b4 || !vn || b6) with
 | true =>
  have HF : Hid (R = false) := by
   show _ = _;rw [HR1.out];rw [show (decide (0 ≤ r.vars ∧ r.vars ≤ 6 ∧ 0 ≤ r.imms ∧ r.imms ≤ 6) && vn && decide (r.conds.length ≤ 6)) = false from ?_]
   ·
    simp
   ·
    rw [Bool.eq_false_iff];intro q;simp only [Bool.and_eq_true, decide_eq_true_eq] at q;obtain ⟨⟨⟨q1, q2, q3, q4⟩, q5⟩, q6⟩ := q;rw [← F1.out, ← F2.out, ← F3.out, ← F4.out, ← F6.out, q5] at hT;simp at hT;omega
  have HU := hU.then_non u1;clear hT
  go_wp2_with fail
  go_ret;exact ⟨by rw [HF.out]; rfl, HU⟩
 | false =>
  obtain ⟨hv, h6, hvn⟩ : (0 ≤ r.vars ∧ r.vars ≤ 6 ∧ 0 ≤ r.imms ∧ r.imms ≤ 6) ∧ r.conds.length ≤ 6 ∧ vn = true := by
   rw [← F1.out, ← F2.out, ← F3.out, ← F4.out, ← F6.out] at hT;simp only [Bool.or_eq_false_iff, decide_eq_false_iff_not, Bool.not_eq_false'] at hT;obtain ⟨⟨⟨⟨⟨q1, q2⟩, q3⟩, q4⟩, q5⟩, q6⟩ := hT;exact ⟨by omega, by omega, q5⟩
  subst hvn;rw [decide_eq_true hv, decide_eq_true h6] at HR1;have H6 := Lib.hid h6;have HT := Lib.hid hT;clear h6 hT CN F1 F2 F3 F4 F6;obtain ⟨n, Hn⟩ : ∃ n : Nat, Hid (r.vars = (n : Int)) := Int.eq_ofNat_of_zero_le hv.1;obtain ⟨m, Hm⟩ : ∃ m : Nat, Hid (r.imms = (m : Int)) := Int.eq_ofNat_of_zero_le hv.2.2.1
  have hn6 : n ≤ 6 := by have := Hn.out; omega
  have hm6 : m ≤ 6 := by have := Hm.out; omega
  have HVN : Hid (r.vars.toNat = n) := by show _ = _; rw [Hn.out]; rfl
  rw [HVN.out, Hm.out] at HR1;rw [show ((m : Int)).toNat = m from rfl] at HR1;clear hv;obtain ⟨d0, g0⟩ : ∃ b, (r.l.v != 0) = b := ⟨_, rfl⟩;obtain ⟨d1, g1⟩ : ∃ b, decide ((24 : Int) < (r.l.size : Int)) = b := ⟨_, rfl⟩;obtain ⟨d2, g2⟩ : ∃ b, decide ((24 : Int) < (r.r.size : Int)) = b := ⟨_, rfl⟩;have G0 := Lib.hid g0;have G1 := Lib.hid g1;have G2 := Lib.hid g2
  go_upto_region 3 with fail
  go_cut [54] (fun t wx => t = .bool (d0 || d1 || d2) ∧ Upd Non W wx)
  case first =>
   cases d0 with
   | true => go_wp2_with fail; go_meet; exact ⟨rfl, u1⟩
   | false =>
    go_wp2_with fail
    refine (CSL.out _ u1).mono ?_;rintro e w2 ⟨rfl, u2⟩;have U2 := u1.then_non u2;obtain ⟨c0, c1, c2, c3, c4, c5, c6, c7, c8, c9, c10, c11, c12, c13⟩ := HC.out _ U2
    cases d1 with
    | true => go_wp2_with fail; go_meet; exact ⟨rfl, U2⟩
    | false =>
     go_wp2_with fail
     refine (CSR.out _ U2).mono ?_;rintro e w3 ⟨rfl, u3⟩
     go_wp2_with fail
     go_meet;exact ⟨by cases d2 <;> rfl, U2.then_non u3⟩
  case rest =>
  obtain ⟨w2, rfl⟩ : ∃ w2 : World, w2 = wc := ⟨_, rfl⟩;obtain ⟨rfl, u2⟩ := hcut;clear c0 c1 c2 c3 c4 c5 c6 c7 c8 c9 c10 c11 c12 c13 u1 g0 g1 g2;obtain ⟨c0, c1, c2, c3, c4, c5, c6, c7, c8, c9, c10, c11, c12, c13⟩ := HC.out _ u2
  cases hT : (d0 || d1 || d2) with
  | true =>
   have HF : Hid (R = false) := by
    show _ = _;rw [HR1.out, decide_eq_false]
    ·
     simp
    ·
     rintro ⟨q1, q2, q3⟩;rw [← G0.out, ← G1.out, ← G2.out, q1] at hT;simp at hT;omega
   have HU := hU.then_non u2;clear hT
   go_wp2_with fail
   go_ret;exact ⟨by rw [HF.out]; rfl, HU⟩
  | false =>
   have hq : r.l.v = 0 ∧ r.l.size ≤ 24 ∧ r.r.size ≤ 24 := by
    rw [← G0.out, ← G1.out, ← G2.out] at hT;simp only [Bool.or_eq_false_iff, decide_eq_false_iff_not, bne_eq_false_iff_eq] at hT;obtain ⟨⟨q1, q2⟩, q3⟩ := hT;exact ⟨q1, by omega, by omega⟩
   rw [decide_eq_true hq] at HR1;have HT2 := Lib.hid hT;clear hT hq CSL CSR G0 G1 G2
   have hmkN := fun w => run_mk (P := Tryz.prog) T_ints' zero_int_ rfl (n + 1) (by omega) (by omega) w
   rw [show ((n + 1 : Nat) : Int) = (n : Int) + 1 by omega] at hmkN
   have hmkB := fun w => run_mk (P := Tryz.prog) T_boolsX zero_boolX rfl (n + 1) (by omega) (by omega) w
   rw [show ((n + 1 : Nat) : Int) = (n : Int) + 1 by omega] at hmkB
   have hmkC := fun w => run_mk (P := Tryz.prog) T_boolsX zero_boolX rfl (m + 1) (by omega) (by omega) w
   rw [show ((m + 1 : Nat) : Int) = (m : Int) + 1 by omega] at hmkC;rw [Hn.out] at c12;rw [Hm.out] at c13;have HSZ : Hid (r.l.size ≤ 1000000000000 ∧ r.r.size ≤ 1000000000000) := ⟨HZ.out.l, HZ.out.r⟩;obtain ⟨w3, Hw3⟩ := nm (w2.alloc (.cells (Array.replicate (n + 1) (.int .i64 0)) 3));have ew3 := Hw3.out
   have uA : Upd Non w2 w3 := by rw [← ew3]; exact Upd.refl.alloc _
   have hgA : VBlk w3 w2.heap.size (0 :: List.replicate n 0) := by rw [← ew3]; exact VBlk.new0 _ _
   have u3 := u2.then_non uA;have hs2 := u2.size
   have hsA : w3.heap.size = w2.heap.size + 1 := by rw [← ew3]; simp
   clear c0 c1 c2 c3 c4 c5 c6 c7 c8 c9 c10 c11
   go_wp2_with fail
   obtain ⟨wD, HwD⟩ := nm w3.drew
   have uD : Upd Non w3 wD := by rw [← HwD.out]; exact Upd.refl.drew
   have vD := u3.then_non uD
   have HS : ∀ w', Upd Non W w' → (w'.cell? ⟨w.heap.size, 1, none⟩ = some (.int .i64 r.l.v) ∧ w'.cell? ⟨w.heap.size, 2, none⟩ = some (.int .i64 r.l.op) ∧ w'.cell? ⟨w.heap.size, 3, none⟩ = some (.int .i64 r.l.imm) ∧ w'.cell? ⟨w.heap.size, 4, none⟩ = some (.int .i64 r.l.iv) ∧ w'.cell? ⟨w.heap.size, 5, none⟩ = some (.slice a.la r.l.kids.length a.lc) ∧ w'.cell? ⟨w.heap.size, 6, none⟩ = some (.int .i64 r.r.v) ∧ w'.cell? ⟨w.heap.size, 7, none⟩ = some (.int .i64 r.r.op) ∧ w'.cell? ⟨w.heap.size, 8, none⟩ = some (.int .i64 r.r.imm) ∧ w'.cell? ⟨w.heap.size, 9, none⟩ = some (.int .i64 r.r.iv) ∧ w'.cell? ⟨w.heap.size, 10, none⟩ = some (.slice a.ra r.r.kids.length a.rc) ∧ w'.cell? ⟨w.heap.size, 13, none⟩ = some (.int .i64 m)) := fun w' u => by
    obtain ⟨c0, c1, c2, c3, c4, c5, c6, c7, c8, c9, c10, c11, c12, c13⟩ := HC.out w' u;rw [Hm.out] at c13;exact ⟨c1, c2, c3, c4, c5, c6, c7, c8, c9, c10, c13⟩
   have HS := Lib.hid HS
   have hFg : ¬ (fun k => k < w.heap.size) w2.heap.size := by show ¬ w2.heap.size < w.heap.size; omega
   have C2 := Lib.hid (r15fits_c r.l wD _ a.la a.lc w2.heap.size (n + 1) 0 m (List.replicate n 0) (PtK.upd vD (fun _ _ _ f => f) _ _ _ HK.out.l) hFg (Blk.upd hgA uD (fun f => f)) HSZ.out.1 (by simp; omega) (by omega))
   rw [List.length_replicate] at C2
   have hl1 : (vPt r.l 0 m (List.replicate n 0)).2.length = n := by rw [vPt_len, List.length_replicate]
   obtain ⟨p1, Hp1⟩ := nm (vPt r.l 0 m (List.replicate n 0)).1;obtain ⟨v1, Hv1⟩ := nm (vPt r.l 0 m (List.replicate n 0)).2;rw [Hp1.out, Hv1.out] at C2 HR1;rw [Hv1.out] at hl1;have HL1 := Lib.hid hl1;unfold pv at C2;clear hl1 hgA
   go_wp2_with fail
   refine wp_region_held_drew (S := fun w' => w'.cell? ⟨w.heap.size, 1, none⟩ = some (.int .i64 r.l.v) ∧ w'.cell? ⟨w.heap.size, 2, none⟩ = some (.int .i64 r.l.op) ∧ w'.cell? ⟨w.heap.size, 3, none⟩ = some (.int .i64 r.l.imm) ∧ w'.cell? ⟨w.heap.size, 4, none⟩ = some (.int .i64 r.l.iv) ∧ w'.cell? ⟨w.heap.size, 5, none⟩ = some (.slice a.la r.l.kids.length a.lc) ∧ w'.cell? ⟨w.heap.size, 6, none⟩ = some (.int .i64 r.r.v) ∧ w'.cell? ⟨w.heap.size, 7, none⟩ = some (.int .i64 r.r.op) ∧ w'.cell? ⟨w.heap.size, 8, none⟩ = some (.int .i64 r.r.imm) ∧ w'.cell? ⟨w.heap.size, 9, none⟩ = some (.int .i64 r.r.iv) ∧ w'.cell? ⟨w.heap.size, 10, none⟩ = some (.slice a.ra r.r.kids.length a.rc) ∧ w'.cell? ⟨w.heap.size, 13, none⟩ = some (.int .i64 m)) (by kernel_rfl) (by rw [HwD.out]; exact HS.out _ vD) (fun hHeld => ?_)
   rw [HwD.out] at hHeld ⊢;refine wpT 0 ?_
   try simp only [put_y, put_z]
   refine wpT 1 ?_
   try simp only [put_y, put_z]
   refine wpT 2 ?_
   try simp only [put_y, put_z]
   refine wpT 3 ?_
   try simp only [put_y, put_z]
   refine wpT 4 ?_
   try simp only [put_y, put_z]
   refine wpAnyH_ready (rs := [5]) (by kernel_rfl) (by simp) ?_;refine AllReadyH.cons rfl (fun K hK => ?_) AllReadyH.nil;go_simp;refine C2.out.mono ?_;rintro e w5 ⟨rfl, hg5, u5⟩;have U5 : Upd Non W w5 := vD.trans u5 (fun i hi h => by omega);have HG5 := Lib.hid hg5;clear hg5 C2
   go_wp2_with fail
   refine hK.out _ _ ?_ (fun hHeld => ?_)
   ·
    exact HS.out _ U5
   clear hK K
   try simp only [put_y, put_z]
   cases p1 with
   | false =>
    refine wpT 6 ?_
    try simp only [put_y, put_z]
    refine wpT 7 ?_
    try simp only [put_y, put_z]
    refine wpU 8 ?_
    try simp only [put_y, put_z]
    refine wpU 9 ?_
    try simp only [put_y, put_z]
    refine wpU 10 ?_
    try simp only [put_y, put_z]
    refine wpU 11 ?_
    try simp only [put_y, put_z]
    refine wpU 12 ?_
    try simp only [put_y, put_z]
    refine wpU 13 ?_
    try simp only [put_y, put_z]
    refine wpU 14 ?_
    try simp only [put_y, put_z]
    refine wpU 15 ?_
    try simp only [put_y, put_z]
    refine wpU 16 ?_
    try simp only [put_y, put_z]
    refine wpU 17 ?_
    try simp only [put_y, put_z]
    refine wpU 18 ?_
    try simp only [put_y, put_z]
    refine wpT 19 ?_
    try simp only [put_y, put_z]
    refine wpAnyH_done (by kernel_rfl) ?_ _
    have HF : Hid (R = false) := by show _ = _; rw [HR1.out]; simp
    have HU := hU.then_non U5
    go_wp2_with fail
    go_ret;exact ⟨by rw [HF.out]; rfl, HU⟩
   | true =>
    have C3 := Lib.hid (fun (w' : World) (u : Upd Non w5 w') => r15fits_c r.r w' _ a.ra a.rc w2.heap.size (n + 1) (pSortF r.l.op) m v1 (PtK.upd (U5.then_non u) (fun _ _ _ f => f) _ _ _ HK.out.r) hFg (Blk.upd HG5.out u (fun f => f)) HSZ.out.2 (by rw [HL1.out]; omega) (by omega))
    rw [HL1.out] at C3;have CP := Lib.hid (fun (w' : World) => pSort_c r.l.op w');obtain ⟨so, Hso⟩ := nm (pSortF r.l.op);rw [Hso.out] at C3 HR1 CP
    have hl2 : (vPt r.r so m v1).2.length = n := by rw [vPt_len, HL1.out]
    obtain ⟨p2, Hp2⟩ := nm (vPt r.r so m v1).1;obtain ⟨v2, Hv2⟩ := nm (vPt r.r so m v1).2;rw [Hp2.out, Hv2.out] at C3 HR1;rw [Hv2.out] at hl2;have HL2 := Lib.hid hl2;unfold pv at C3;clear hl2;refine wpT 6 ?_
    try simp only [put_y, put_z]
    refine wpT 7 ?_
    try simp only [put_y, put_z]
    refine wpT 8 ?_
    try simp only [put_y, put_z]
    refine wpT 9 ?_
    try simp only [put_y, put_z]
    refine wpT 10 ?_
    try simp only [put_y, put_z]
    refine wpT 11 ?_
    try simp only [put_y, put_z]
    refine wpT 12 ?_
    try simp only [put_y, put_z]
    refine wpAnyH_takeC (i := 13) (v := ?v1) rfl (by kernel_rfl) (by kernel_rfl) (by kernel_rfl) (fun _ _ _ h => h) ⟨by rfl, ?f1, ?a1, ?r1, ?c1⟩ (by assumption) ?m1
    case r1 => intro w; go_simp; constructor <;> with_reducible rfl
    case c1 => intro W hSw; refine (CP.out W).mono ?_; rintro e w' ⟨rfl, rfl⟩; constructor <;> with_reducible rfl
    try simp only [put_y, put_z]
    refine wpT 14 ?_
    try simp only [put_y, put_z]
    refine wpT 15 ?_
    try simp only [put_y, put_z]
    refine wpT 16 ?_
    try simp only [put_y, put_z]
    refine wpAnyH_ready (rs := [17]) (by kernel_rfl) (by simp) ?_;refine AllReadyH.cons rfl (fun K hK => ?_) AllReadyH.nil;go_simp;refine (C3.out _ Upd.refl).mono ?_;rintro e w7 ⟨rfl, hg7, u7⟩;have U7 : Upd Non W w7 := U5.trans u7 (fun i hi h => by omega);have HG7 := Lib.hid hg7;clear hg7 C3
    go_wp2_with fail
    refine hK.out _ _ ?_ (fun hHeld => ?_)
    ·
     exact HS.out _ U7
    clear hK K
    try simp only [put_y, put_z]
    refine wpT 18 ?_
    try simp only [put_y, put_z]
    refine wpT 19 ?_
    try simp only [put_y, put_z]
    refine wpAnyH_done (by kernel_rfl) ?_ _
    cases p2 with
    | false =>
     have HF : Hid (R = false) := by show _ = _; rw [HR1.out]; simp
     have HU := hU.then_non U7
     go_wp2_with fail
     go_ret;exact ⟨by rw [HF.out]; rfl, HU⟩
    | true =>
     obtain ⟨x1, Hx1⟩ := nm (((markV (nodes r.l) (List.replicate (n + 1) false)).drop 1).all id);obtain ⟨x2, Hx2⟩ := nm (((markI (nodes r.l) (List.replicate (m + 1) false)).drop 1).all id);obtain ⟨x3, Hx3⟩ := nm (r.conds.all fun c => condF c (0 :: v2) (m : Int));rw [Hx1.out, Hx2.out, Hx3.out] at HR1
     have HR2 : Hid (R = (x1 && (x2 && x3))) := by show _ = _; rw [HR1.out]; simp [Bool.and_assoc]
     have HVL1 : Hid ((markV (nodes r.l) (List.replicate (n + 1) false)).length = n + 1) := by show _ = _; rw [Go.Proofs.YtblkgjdhaibhgaaGreat.markV_len, List.length_replicate]
     have HIL1 : Hid ((markI (nodes r.l) (List.replicate (m + 1) false)).length = m + 1) := by show _ = _; rw [Go.Proofs.YtblkgjdhaibhgaaGreat.markI_len, List.length_replicate]
     have HB1 : Hid (x1 = true ↔ ∀ i : Nat, 1 ≤ i → i ≤ n → (markV (nodes r.l) (List.replicate (n + 1) false)).getD i false = true) := by
      show _ ↔ _;rw [← Hx1.out, all_drop (d := false) HVL1.out];rfl
     have HB2 : Hid (x2 = true ↔ ∀ i : Nat, 1 ≤ i → i ≤ m → (markI (nodes r.l) (List.replicate (m + 1) false)).getD i false = true) := by
      show _ ↔ _;rw [← Hx2.out, all_drop (d := false) HIL1.out];rfl
     obtain ⟨w8, Hw8⟩ := nm (w7.alloc (.cells (Array.replicate (n + 1) (.bool false)) 4));have ew8 := Hw8.out
     have u8 : Upd Non w7 w8 := by rw [← ew8]; exact Upd.refl.alloc _
     have hgp : BBlk w8 w7.heap.size (List.replicate (n + 1) false) := by rw [← ew8]; exact BBlk.new _ _
     have hs8 : w8.heap.size = w7.heap.size + 1 := by rw [← ew8]; simp
     obtain ⟨w9, Hw9⟩ := nm (w8.alloc (.cells (Array.replicate (m + 1) (.bool false)) 4));have ew9 := Hw9.out
     have u9 : Upd Non w8 w9 := by rw [← ew9]; exact Upd.refl.alloc _
     have hgi : BBlk w9 (w7.heap.size + 1) (List.replicate (m + 1) false) := by rw [← ew9, ← hs8]; exact BBlk.new _ _
     have hgp9 : BBlk w9 w7.heap.size (List.replicate (n + 1) false) := Blk.upd hgp u9 (fun f => f);have U8 := U7.then_non u8;have U9 := U8.then_non u9;have hs7 := U7.size
     have hFp : ¬ (fun k => k < w.heap.size) w7.heap.size := by show ¬ w7.heap.size < w.heap.size; omega
     have hFi : ¬ (fun k => k < w.heap.size) (w7.heap.size + 1) := by show ¬ w7.heap.size + 1 < w.heap.size; omega
     have C4 := Lib.hid (r15occurring_c r.l w9 _ a.la a.lc w7.heap.size (n + 1) (w7.heap.size + 1) (m + 1) (List.replicate (n + 1) false) (List.replicate (m + 1) false) (PtK.upd U9 (fun _ _ _ f => f) _ _ _ HK.out.l) hFp hFi (by omega) hgp9 hgi HSZ.out.1)
     rw [List.length_replicate, List.length_replicate] at C4;obtain ⟨V1, HV1⟩ := nm (markV (nodes r.l) (List.replicate (n + 1) false));obtain ⟨I1, HI1⟩ := nm (markI (nodes r.l) (List.replicate (m + 1) false));rw [HV1.out] at C4 HVL1 HB1;rw [HI1.out] at C4 HIL1 HB2;unfold pv at C4;obtain ⟨_, _, _, _, _, _, _, _, _, _, _, _, d12, _⟩ := HC.out _ U7;rw [Hn.out] at d12
     obtain ⟨_, _, _, _, _, _, _, _, _, _, _, _, _, d13⟩ := HC.out _ U8;rw [Hm.out] at d13;obtain ⟨_, f1, f2, f3, f4, f5, _, _, _, _, _, _, _, _⟩ := HC.out _ U9;clear hgp hgi hgp9 HR1 c12 c13
     go_wp2_with fail
     refine C4.out.mono ?_;rintro e wA ⟨rfl, hgp, hgi, uA⟩;have UA : Upd Non W wA := U9.trans uA (fun i hi h => by omega);have HU := hU.then_non UA
     have HGA : Hid (VBlk wA w2.heap.size (0 :: v2)) := by
      have h1 := Blk.upd HG7.out u8 (fun f => f);have h2 := Blk.upd h1 u9 (fun f => f);exact Blk.upd h2 uA (by have := Blk.lt HG7.out; omega)
     clear C4 d12 d13 f1 f2 f3 f4 f5 hmkN hmkB hmkC
     go_wp2_with fail
     go_loopg [6] n (fun g i wr => ∃ k : Nat, Hid (g = n + 1 - k) ∧ 1 ≤ k ∧ k ≤ n + 1 ∧ i = .int .i64 k ∧ Hid (∀ j : Nat, 1 ≤ j → j < k → V1.getD j false = true) ∧ wA = wr)
     case atStart => exact ⟨1, by show _ = _; omega, by omega, by omega, rfl, fun j h1 h2 => by omega, rfl⟩
     case round =>
      obtain ⟨k, Hg, hk1, hk2, rfl, HA, rfl⟩ := hrel
      by_cases hlt : k < n + 1
      ·
       have t3 : decide ((k : Int) < (n : Int) + 1) = true := decide_eq_true (by omega)
       have hkN : (k : Int) < (n : Int) + 1 := by omega
       have hk0 : (0 : Int) ≤ (k : Int) := by omega
       have z1 := BBlk.cell hgp (i := k) (by rw [HVL1.out]; omega);obtain ⟨z, Hz⟩ := nm (V1.getD k false);rw [Hz.out] at z1
       cases z with
       | false =>
        have hb : x1 = false := by
         rw [Bool.eq_false_iff];intro q;have := HB1.out.1 q k hk1 (by omega);rw [Hz.out] at this
         cases this
        have HF : Hid (R = false) := by show _ = _; rw [HR2.out, hb]; simp
        clear hb
        go_wp2_with fail
        go_ret;exact ⟨by rw [HF.out]; rfl, HU⟩
       | true =>
        have HA2 : Hid (∀ j : Nat, 1 ≤ j → j < k + 1 → V1.getD j false = true) := by
         intro j j1 j2
         by_cases e : j = k
         ·
          rw [e]; exact Hz.out
         ·
          exact HA.out j j1 (by omega)
        go_wp2_with fail
        go_roundg (n + 1 - (k + 1))
        case measure => rw [Hg.out]; omega
        case rel => exact ⟨k + 1, rfl, by omega, by omega, by go_num, HA2, rfl⟩
      ·
       have t3 : decide ((k : Int) < (n : Int) + 1) = false := decide_eq_false (by omega);have hb1 : x1 = true := HB1.out.2 (fun i i1 i2 => HA.out i i1 (by omega));subst hb1
       have HR3 : Hid (R = (x2 && x3)) := by show _ = _; rw [HR2.out]; rfl
       clear HA Hg hk1 hk2 hlt
       go_wp2_with fail
       go_loopg [7] m (fun g i wr => ∃ k : Nat, Hid (g = m + 1 - k) ∧ 1 ≤ k ∧ k ≤ m + 1 ∧ i = .int .i64 k ∧ Hid (∀ j : Nat, 1 ≤ j → j < k → I1.getD j false = true) ∧ wA = wr)
       case atStart => exact ⟨1, by show _ = _; omega, by omega, by omega, rfl, fun j h1 h2 => by omega, rfl⟩
       case round =>
        obtain ⟨k, Hg, hk1, hk2, rfl, HA, rfl⟩ := hrel
        by_cases hlt : k < m + 1
        ·
         have t3 : decide ((k : Int) < (m : Int) + 1) = true := decide_eq_true (by omega)
         have hkN : (k : Int) < (m : Int) + 1 := by omega
         have hk0 : (0 : Int) ≤ (k : Int) := by omega
         have z1 := BBlk.cell hgi (i := k) (by rw [HIL1.out]; omega);obtain ⟨z, Hz⟩ := nm (I1.getD k false);rw [Hz.out] at z1
         cases z with
         | false =>
          have hb : x2 = false := by
           rw [Bool.eq_false_iff];intro q;have := HB2.out.1 q k hk1 (by omega);rw [Hz.out] at this
           cases this
          have HF : Hid (R = false) := by show _ = _; rw [HR3.out, hb]; simp
          clear hb
          go_wp2_with fail
          go_ret;exact ⟨by rw [HF.out]; rfl, HU⟩
         | true =>
          have HA2 : Hid (∀ j : Nat, 1 ≤ j → j < k + 1 → I1.getD j false = true) := by
           intro j j1 j2
           by_cases e : j = k
           ·
            rw [e]; exact Hz.out
           ·
            exact HA.out j j1 (by omega)
          go_wp2_with fail
          go_roundg (m + 1 - (k + 1))
          case measure => rw [Hg.out]; omega
          case rel => exact ⟨k + 1, rfl, by omega, by omega, by go_num, HA2, rfl⟩
        ·
         have t3 : decide ((k : Int) < (m : Int) + 1) = false := decide_eq_false (by omega);have hb1 : x2 = true := HB2.out.2 (fun i i1 i2 => HA.out i i1 (by omega));subst hb1
         have HR4 : Hid (R = (x3)) := by show _ = _; rw [HR3.out]; rfl
         clear HA Hg hk1 hk2 hlt;obtain ⟨cn, Hcn⟩ := nm r.conds.length;have hcn := H6.out;rw [Hcn.out] at hcn
         go_wp2_with fail
         go_loopg [8] cn (fun g i wr => ∃ q : Nat, Hid (g = cn - q) ∧ q ≤ cn ∧ i = .int .i64 q ∧ Hid (∀ j (h : j < r.conds.length), j < q → condF r.conds[j] (0 :: v2) (m : Int) = true) ∧ Upd Non wA wr)
         case atStart => exact ⟨0, rfl, by omega, rfl, fun j h1 h2 => by omega, Upd.refl⟩
         case round =>
          obtain ⟨q, Hg, hq, rfl, HA, hu⟩ := hrel;have HUC := UA.then_non hu
          by_cases hlt : q < cn
          ·
           have hql : q < r.conds.length := by rw [Hcn.out]; exact hlt
           have hcv := HK.out.c.upd HUC (fun _ _ _ f => f);obtain ⟨cb, co, ecA, hF, hcb, k0, k1, k2, k3⟩ := hcv.at_ hql
           have hcond : Hid (∀ b, condF r.conds[q] (0 :: v2) (m : Int) = b → (b = false → R = false) ∧ (b = true → ∀ j (h : j < r.conds.length), j < q + 1 → condF r.conds[j] (0 :: v2) (m : Int) = true)) := by
            intro b hb;refine ⟨fun h => ?_, fun h j hj1 hj2 => ?_⟩
            ·
             rw [HR4.out, ← Hx3.out, Bool.eq_false_iff];intro h2;rw [List.all_eq_true] at h2;have := h2 _ (List.getElem_mem hql);rw [hb, h] at this; cases this
            ·
             by_cases e : j = q
             ·
              subst e; rw [hb, h]
             ·
              exact HA.out j hj1 (by omega)
           generalize r.conds[q] = x at *;obtain ⟨wE, HwE⟩ := nm wr.drew
           have uE : Upd Non wr wE := by rw [← HwE.out]; exact Upd.refl.drew
           have UE := HUC.then_non uE
           have HS3 : Hid (∀ w', Upd Non wr w' → (w'.cell? ⟨w.heap.size, 11, none⟩ = some (.slice (some ⟨cb, co, none⟩) cn a.cc) ∧ w'.cell? ⟨w.heap.size, 13, none⟩ = some (.int .i64 m) ∧ w'.cell? ⟨cb, co + q * 4, none⟩ = some (.int .i64 x.kind) ∧ w'.cell? ⟨cb, co + q * 4 + 1, none⟩ = some (.int .i64 x.a) ∧ w'.cell? ⟨cb, co + q * 4 + 2, none⟩ = some (.int .i64 x.b) ∧ w'.cell? ⟨cb, co + q * 4 + 3, none⟩ = some (.int .i64 x.n))) := fun w' u => by
            obtain ⟨_, _, _, _, _, _, _, _, _, _, _, d11, _, d13⟩ := HC.out _ (HUC.then_non u);rw [ecA, Hcn.out] at d11;rw [Hm.out] at d13;exact ⟨d11, d13, cell_upd k0 u (fun f => f), cell_upd k1 u (fun f => f), cell_upd k2 u (fun f => f), cell_upd k3 u (fun f => f)⟩
           have CC := Lib.hid (r15validCond_c x (0 :: v2) (m : Int) (some ⟨w2.heap.size, 0, none⟩) (n + 1) (fun _ => True) wE (VBlk.ints (Blk.upd (Blk.upd HGA.out hu (fun f => f)) uE (fun f => f))))
           rw [List.length_cons, HL2.out] at CC;obtain ⟨cr, Hcr⟩ := nm (condF x (0 :: v2) (m : Int));rw [Hcr.out] at CC hcond;have HCD := Lib.hid (hcond.out cr rfl)
           have hq0 : (0 : Int) ≤ (q : Int) := by omega
           have hqn : (q : Int) < (cn : Int) := by omega
           obtain ⟨d11, d13, _⟩ := HS3.out wr Upd.refl;have t5 : decide (q < cn) = true := decide_eq_true hlt;clear hcv hcond k0 k1 k2 k3 HA
           go_wp2_with fail
           refine wp_region_held_drew (S := fun w' => w'.cell? ⟨w.heap.size, 11, none⟩ = some (.slice (some ⟨cb, co, none⟩) cn a.cc) ∧ w'.cell? ⟨w.heap.size, 13, none⟩ = some (.int .i64 m) ∧ w'.cell? ⟨cb, co + q * 4, none⟩ = some (.int .i64 x.kind) ∧ w'.cell? ⟨cb, co + q * 4 + 1, none⟩ = some (.int .i64 x.a) ∧ w'.cell? ⟨cb, co + q * 4 + 2, none⟩ = some (.int .i64 x.b) ∧ w'.cell? ⟨cb, co + q * 4 + 3, none⟩ = some (.int .i64 x.n)) (by kernel_rfl) (by rw [HwE.out]; exact HS3.out _ uE) (fun hHeld => ?_)
           rw [HwE.out] at hHeld ⊢;refine wpT 0 ?_
           try simp only [put_y, put_z]
           refine wpT 1 ?_
           try simp only [put_y, put_z]
           refine wpT 2 ?_
           try simp only [put_y, put_z]
           refine wpT 3 ?_
           try simp only [put_y, put_z]
           refine wpT 4 ?_
           try simp only [put_y, put_z]
           refine wpT 5 ?_
           try simp only [put_y, put_z]
           refine wpT 6 ?_
           try simp only [put_y, put_z]
           refine wpT 7 ?_
           try simp only [put_y, put_z]
           refine wpAnyH_ready (rs := [8]) (by kernel_rfl) (by simp) ?_;refine AllReadyH.cons rfl (fun K hK => ?_) AllReadyH.nil;go_simp;refine CC.out.mono ?_;rintro e wG ⟨rfl, uG⟩
           go_wp2_with fail
           refine hK.out _ _ ?_ (fun hHeld => ?_)
           ·
            exact HS3.out _ (uE.then_non uG)
           clear hK K
           try simp only [put_y, put_z]
           refine wpT 9 ?_
           try simp only [put_y, put_z]
           refine wpAnyH_done (by kernel_rfl) ?_ _;have HU11 := (hu.then_non uE).then_non uG;have HU := HU.then_non HU11
           cases cr with
           | false =>
            have HF : Hid (R = false) := HCD.out.1 rfl
            go_wp2_with fail
            go_ret;exact ⟨by rw [HF.out]; rfl, HU⟩
           | true =>
            have HA2 := Lib.hid (HCD.out.2 rfl)
            go_wp2_with fail
            simp only [← ecA]
            go_roundg (cn - (q + 1))
            case measure => rw [Hg.out]; omega
            case rel => exact ⟨q + 1, rfl, by omega, by go_num, HA2.out, HU11⟩
          ·
           obtain rfl : cn = q := by omega
           have HF : Hid (R = true) := by
            show _ = _;rw [HR4.out, ← Hx3.out, List.all_eq_true];intro c hc;obtain ⟨j, hj, rfl⟩ := List.mem_iff_getElem.1 hc;exact HA.out j hj (by rw [← Hcn.out]; exact hj)
           have HU := HU.then_non hu;obtain ⟨_, _, _, _, _, _, _, _, _, _, _, d11, _, _⟩ := HC.out _ HUC;rw [Hcn.out] at d11
           have t5 : decide (cn < cn) = false := by simp
           go_wp2_with fail
           go_ret;exact ⟨by rw [HF.out]; rfl, HU⟩
end Go.Proofs.YtblkgjdhaibhgaaGreat
