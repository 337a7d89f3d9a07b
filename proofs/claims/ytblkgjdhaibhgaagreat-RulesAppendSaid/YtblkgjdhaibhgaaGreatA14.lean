/-
  Lemmas and walks that the claim rests on, part 14 (packed by a program).
-/
import Derived.Test.YtblkgjdhaibhgaaGreatA9
import Derived.Test.YtblkgjdhaibhgaaGreatA4
import Derived.Test.YtblkgjdhaibhgaaGreatA7
import Derived.Test.YtblkgjdhaibhgaaGreatA13
namespace Go.Proofs.YtblkgjdhaibhgaaGreat
open Go.RowKit
set_option maxRecDepth 100000 in
set_option maxHeartbeats 2000000 in
theorem samePattern_c (p : Pt) : ∀ (q : Pt) (w : World) (F G : Nat → Prop) (KA KC : Option Addr) (kc kd : Nat), PtK w F p KA kc → PtK w G q KC kd → p.size ≤ 1000000000000 →
  Calls Tryz.prog 43 #[pv p KA kc, pv q KC kd] w fun e w' => e = .returned (.bool (ptE p q)) ∧ Upd Non w w' := by
 induction p using Pt.ind with
 | h p ih =>
  intro q w F G KA KC kc kd hp hq hs;have hse := Pt.size_eq p;have hle := Pt.len_le p.kids;have HI := Lib.hid ih;have HE := Lib.hid (ptE_eq p q);obtain ⟨res, Hres⟩ := nm (ptE p q);rw [Hres.out] at HE ⊢;obtain ⟨W1, HW1⟩ := nm (w.alloc (.cells #[.int .i64 p.v, .int .i64 p.op, .int .i64 p.imm, .int .i64 p.iv, .slice KA p.kids.length kc] 40))
  have u1 : Upd Non w W1 := by rw [← HW1.out]; exact Upd.refl.alloc _
  have b1 : Blk W1 w.heap.size 40 #[.int .i64 p.v, .int .i64 p.op, .int .i64 p.imm, .int .i64 p.iv, .slice KA p.kids.length kc] := by rw [← HW1.out]; exact Blk.new _ _ _
  have s1 : W1.heap.size = w.heap.size + 1 := by rw [← HW1.out]; simp
  obtain ⟨W2, HW2⟩ := nm (W1.alloc (.cells #[.int .i64 q.v, .int .i64 q.op, .int .i64 q.imm, .int .i64 q.iv, .slice KC q.kids.length kd] 40))
  have u2 : Upd Non W1 W2 := by rw [← HW2.out]; exact Upd.refl.alloc _
  have b2 : Blk W2 (w.heap.size + 1) 40 #[.int .i64 q.v, .int .i64 q.op, .int .i64 q.imm, .int .i64 q.iv, .slice KC q.kids.length kd] := by rw [← HW2.out, ← s1]; exact Blk.new _ _ _
  have b1 := b1.upd u2 (fun f => f);have U2 := u1.then_non u2;have e1 := HW1.out;have e2 := HW2.out;have HB1 := Lib.hid b1;have HB2 := Lib.hid b2;have HU := Lib.hid U2;have HP := Lib.hid (PtK.upd U2 (fun _ _ _ f => f) p KA kc hp);have HQ := Lib.hid (PtK.upd U2 (fun _ _ _ f => f) q KC kd hq);have c0 := b1.cell 0;have c1 := b1.cell 1;have c2 := b1.cell 2;have c3 := b1.cell 3;have c4 := b1.cell 4
  have d0 := b2.cell 0;have d1 := b2.cell 1;have d2 := b2.cell 2;have d3 := b2.cell 3;have d4 := b2.cell 4;unfold pv;clear ih hp hq u1 u2 b1 b2 U2 HW1 HW2
  have HV : Hid ((p.v != q.v) = !decide (p.v = q.v)) := by show _ = _; by_cases h : p.v = q.v <;> simp [h]
  obtain ⟨pn, Hpn⟩ := nm p.kids.length;obtain ⟨qn, Hqn⟩ := nm q.kids.length;rw [Hpn.out] at c4 e1 hle HE;rw [Hqn.out] at d4 e2 HE;rw [Hpn.out, Hqn.out]
  by_cases h1 : p.v = q.v
  ·
   by_cases h2 : p.op = q.op
   ·
    by_cases h3 : p.imm = q.imm
    ·
     by_cases h4 : p.iv = q.iv
     ·
      by_cases h5 : pn = qn
      ·
       have t1 : (p.v != q.v) = false := by simpa using h1
       have t2 : (p.op != q.op) = false := by simpa using h2
       have t3 : (p.imm != q.imm) = false := by simpa using h3
       have t4 : (p.iv != q.iv) = false := by simpa using h4
       have t5 : ((pn : Int) != (qn : Int)) = false := by simp [h5]
       have HR : Hid (res = ptEL p.kids q.kids) := by show _ = _; rw [HE.out, decide_eq_true ⟨h1, h2, h3, h4, h5⟩, Bool.true_and]
       clear h1 h2 h3 h4;subst h5;obtain ⟨n, rfl⟩ : ∃ m, m = pn := ⟨_, rfl⟩
       have hn12 : n ≤ 1000000000000 := by omega
       go_enter Tryz.func43, Tryz.ntmps43
       go_wp2_with fail
       clear e1 e2 c0 c1 c2 c3 d0 d1 d2 d3 t1 t2 t3 t4 t5
       go_loopg [5] n (fun g  iv wr => ∃ k : Nat, Hid (g = n - k) ∧ k ≤ n ∧ iv = .int .i64 k ∧ Hid (∀ i (h : i < p.kids.length) (h2 : i < q.kids.length), i < k → ptE p.kids[i] q.kids[i] = true) ∧ Hid (Upd Non W2 wr))
       case atStart => exact ⟨0, rfl, Nat.zero_le _, rfl, fun i _ _ h => by omega, Upd.refl⟩
       case round =>
        obtain ⟨k, Hg, hk, rfl, HA, Hu⟩ := hrel;have c4 := cell_upd c4 Hu.out (fun f => f);have d4 := cell_upd d4 Hu.out (fun f => f)
        by_cases hlt : k < n
        ·
         have hkl : k < p.kids.length := by rw [Hpn.out]; exact hlt
         have hkq : k < q.kids.length := by rw [Hqn.out]; exact hlt
         obtain ⟨b, o, rfl, hF, hbw, KB, c1_, g0, g1, g2, g3, g4, g5⟩ := (PtK.upd Hu.out (fun _ _ _ f => f) p KA kc HP.out).at_ hkl;obtain ⟨b2, o2, rfl, hG, hbw2, KZ, c2_, k0, k1, k2, k3, k4, k5⟩ := (PtK.upd Hu.out (fun _ _ _ f => f) q KC kd HQ.out).at_ hkq
         have hks : p.kids[k].size ≤ 1000000000000 := by have := Pt.kids_lt (List.getElem_mem hkl); omega
         have HNX : Hid (ptE p.kids[k] q.kids[k] = false → res = false) := fun h => by rw [HR.out]; exact ptEL_no hkl hkq h
         have HNY : Hid (ptE p.kids[k] q.kids[k] = true → ∀ i (h : i < p.kids.length) (h2 : i < q.kids.length), i < k + 1 → ptE p.kids[i] q.kids[i] = true) := fun h i h1 h2 h3 => by
          by_cases e : i = k
          ·
           subst e; exact h
          ·
           exact HA.out i h1 h2 (by omega)
         have CR := Lib.hid (fun W (u : Upd Non wr W) => HI.out _ (List.getElem_mem hkl) q.kids[k] W F G KB KZ c1_ c2_ (PtK.upd u (fun _ _ _ f => f) _ _ _ g5) (PtK.upd u (fun _ _ _ f => f) _ _ _ k5) hks)
         generalize p.kids[k] = x at *;generalize q.kids[k] = z at *;unfold pv at CR;obtain ⟨B, HB⟩ := nm (ptE x z);rw [HB.out] at CR;clear g5 k5 hks
         go_upto_region 6 with fail
         go_cut [59] (fun s wx => s = .bool (!B) ∧ Upd Non wr wx)
         case first =>
          obtain ⟨wD, HwD⟩ := nm wr.drew
          have uD : Upd Non wr wD := by rw [← HwD.out]; exact Upd.refl.drew
          refine wp_region_held_drew (S := fun w' => w'.cell? ⟨w.heap.size, 4, none⟩ = some (.slice (some ⟨b, o, none⟩) n kc) ∧ w'.cell? ⟨w.heap.size + 1, 4, none⟩ = some (.slice (some ⟨b2, o2, none⟩) n kd) ∧ w'.cell? ⟨b, o + k * 5, none⟩ = some (.int .i64 x.v) ∧ w'.cell? ⟨b, o + k * 5 + 1, none⟩ = some (.int .i64 x.op) ∧ w'.cell? ⟨b, o + k * 5 + 2, none⟩ = some (.int .i64 x.imm) ∧ w'.cell? ⟨b, o + k * 5 + 3, none⟩ = some (.int .i64 x.iv) ∧ w'.cell? ⟨b, o + k * 5 + 4, none⟩ = some (.slice KB x.kids.length c1_) ∧ w'.cell? ⟨b2, o2 + k * 5, none⟩ = some (.int .i64 z.v) ∧ w'.cell? ⟨b2, o2 + k * 5 + 1, none⟩ = some (.int .i64 z.op) ∧ w'.cell? ⟨b2, o2 + k * 5 + 2, none⟩ = some (.int .i64 z.imm) ∧ w'.cell? ⟨b2, o2 + k * 5 + 3, none⟩ = some (.int .i64 z.iv) ∧ w'.cell? ⟨b2, o2 + k * 5 + 4, none⟩ = some (.slice KZ z.kids.length c2_)) (by kernel_rfl) (by rw [HwD.out]; exact ⟨cell_upd c4 uD (fun f => f), cell_upd d4 uD (fun f => f), cell_upd g0 uD (fun f => f), cell_upd g1 uD (fun f => f), cell_upd g2 uD (fun f => f), cell_upd g3 uD (fun f => f), cell_upd g4 uD (fun f => f), cell_upd k0 uD (fun f => f), cell_upd k1 uD (fun f => f), cell_upd k2 uD (fun f => f), cell_upd k3 uD (fun f => f), cell_upd k4 uD (fun f => f)⟩) (fun hHeld => ?_)
          rw [HwD.out] at hHeld ⊢;refine wpT 0 ?_
          try simp only [put_y, put_z]
          refine wpT 1 ?_
          try simp only [put_y, put_z]
          refine wpT 2 ?_
          try simp only [put_y, put_z]
          refine wpT 3 ?_
          try simp only [put_y, put_z]
          refine wpT 4 ?_
          try simp only [put_y, put_z]
          refine wpT 5 ?_
          try simp only [put_y, put_z]
          refine wpT 6 ?_
          try simp only [put_y, put_z]
          refine wpT 7 ?_
          try simp only [put_y, put_z]
          refine wpT 8 ?_
          try simp only [put_y, put_z]
          refine wpT 9 ?_
          try simp only [put_y, put_z]
          refine wpAnyH_ready (rs := [10]) (by kernel_rfl) (by simp) ?_;refine AllReadyH.cons rfl (fun K hK => ?_) AllReadyH.nil;go_simp;refine (CR.out _ uD).mono ?_;rintro e w5 ⟨rfl, u5⟩;have h5 : Upd Non wr w5 := uD.then_non u5
          go_wp2_with fail
          refine hK.out _ _ ?_ (fun hHeld => ?_)
          ·
           exact ⟨cell_upd c4 h5 (fun f => f), cell_upd d4 h5 (fun f => f), cell_upd g0 h5 (fun f => f), cell_upd g1 h5 (fun f => f), cell_upd g2 h5 (fun f => f), cell_upd g3 h5 (fun f => f), cell_upd g4 h5 (fun f => f), cell_upd k0 h5 (fun f => f), cell_upd k1 h5 (fun f => f), cell_upd k2 h5 (fun f => f), cell_upd k3 h5 (fun f => f), cell_upd k4 h5 (fun f => f)⟩
          clear hK K
          try simp only [put_y, put_z]
          refine wpT 11 ?_
          try simp only [put_y, put_z]
          refine wpAnyH_done (by kernel_rfl) ?_ _
          go_wp2_with fail
          go_meet
          case rel => exact ⟨rfl, h5⟩
         case rest =>
          obtain ⟨rfl, hwc⟩ := hcut;have HUC := Lib.hid (Hu.out.then_non hwc);have c4 := cell_upd c4 hwc (fun f => f);clear CR g0 g1 g2 g3 g4 k0 k1 k2 k3 k4 hwc
          cases B with
          | false =>
           have HF : Hid (res = false) := HNX.out HB.out
           go_wp2_with fail
           go_ret;exact ⟨by rw [HF.out]; rfl, HU.out.then_non HUC.out⟩
          | true =>
           have HA2 := Lib.hid (HNY.out HB.out)
           go_wp2_with fail
           go_roundg (n - (k + 1))
           case measure => rw [Hg.out]; omega
           case rel => exact ⟨k + 1, rfl, by omega, by go_num, HA2, HUC⟩
        ·
         obtain rfl : n = k := by omega
         have HT : Hid (res = true) := by
          show _ = _;rw [HR.out]
          exact ptEL_of fun i h1 h2 => HA.out i h1 h2 (by rw [← Hpn.out]; exact h1)
         go_wp2_with fail
         go_ret;exact ⟨by rw [HT.out]; rfl, HU.out.then_non Hu.out⟩
      ·
       have t1 : (p.v != q.v) = false := by simpa using h1
       have t2 : (p.op != q.op) = false := by simpa using h2
       have t3 : (p.imm != q.imm) = false := by simpa using h3
       have t4 : (p.iv != q.iv) = false := by simpa using h4
       have t5 : ((pn : Int) != (qn : Int)) = true := by simpa using fun e => h5 (by omega)
       have HR : Hid (res = false) := by show _ = _; rw [HE.out, decide_eq_false (fun h => h5 h.2.2.2.2), Bool.false_and]
       clear h1 h2 h3 h4 h5;go_enter Tryz.func43, Tryz.ntmps43
       go_wp2_with fail
       go_ret;exact ⟨by rw [HR.out]; rfl, HU.out⟩
     ·
      have t1 : (p.v != q.v) = false := by simpa using h1
      have t2 : (p.op != q.op) = false := by simpa using h2
      have t3 : (p.imm != q.imm) = false := by simpa using h3
      have t4 : (p.iv != q.iv) = true := by simpa using h4
      have HR : Hid (res = false) := by show _ = _; rw [HE.out, decide_eq_false (fun h => h4 h.2.2.2.1), Bool.false_and]
      clear h1 h2 h3 h4;go_enter Tryz.func43, Tryz.ntmps43
      go_wp2_with fail
      go_ret;exact ⟨by rw [HR.out]; rfl, HU.out⟩
    ·
     have t1 : (p.v != q.v) = false := by simpa using h1
     have t2 : (p.op != q.op) = false := by simpa using h2
     have t3 : (p.imm != q.imm) = true := by simpa using h3
     have HR : Hid (res = false) := by show _ = _; rw [HE.out, decide_eq_false (fun h => h3 h.2.2.1), Bool.false_and]
     clear h1 h2 h3;go_enter Tryz.func43, Tryz.ntmps43
     go_wp2_with fail
     go_ret;exact ⟨by rw [HR.out]; rfl, HU.out⟩
   ·
    have t1 : (p.v != q.v) = false := by simpa using h1
    have t2 : (p.op != q.op) = true := by simpa using h2
    have HR : Hid (res = false) := by show _ = _; rw [HE.out, decide_eq_false (fun h => h2 h.2.1), Bool.false_and]
    clear h1 h2;go_enter Tryz.func43, Tryz.ntmps43
    go_wp2_with fail
    go_ret;exact ⟨by rw [HR.out]; rfl, HU.out⟩
  ·
   have t1 : (p.v != q.v) = true := by simpa using h1
   have HR : Hid (res = false) := by show _ = _; rw [HE.out, decide_eq_false (fun h => h1 h.1), Bool.false_and]
   clear h1;go_enter Tryz.func43, Tryz.ntmps43
   go_wp2_with fail
   go_ret;exact ⟨by rw [HR.out]; rfl, HU.out⟩
set_option maxRecDepth 100000 in
set_option maxHeartbeats 2000000 in
theorem sameRule_c (r : Rl) (a : RlA) (s : Rl) (e : RlA) (w : World) (F G : Nat → Prop) (hr : RlK w F r a) (hs : RlK w G s e) (hz : RlSz r) :
  Calls Tryz.prog 20 #[rlv r a, rlv s e] w fun en w' => en = .returned (.bool (rlE r s)) ∧ Upd Non w w' := by
 have HE : Hid (rlE r s = (decide (r.vars = s.vars ∧ r.imms = s.imms ∧ r.conds.length = s.conds.length) && ptE r.l s.l && ptE r.r s.r && decide (r.conds = s.conds))) := rfl
 obtain ⟨res, Hres⟩ := nm (rlE r s);rw [Hres.out] at HE ⊢;obtain ⟨W1, HW1⟩ := nm (w.alloc (.cells (rlCells r a) 43))
 have u1 : Upd Non w W1 := by rw [← HW1.out]; exact Upd.refl.alloc _
 have b1 : Blk W1 w.heap.size 43 (rlCells r a) := by rw [← HW1.out]; exact Blk.new _ _ _
 have s1 : W1.heap.size = w.heap.size + 1 := by rw [← HW1.out]; simp
 obtain ⟨W2, HW2⟩ := nm (W1.alloc (.cells (rlCells s e) 43))
 have u2 : Upd Non W1 W2 := by rw [← HW2.out]; exact Upd.refl.alloc _
 have b2 : Blk W2 (w.heap.size + 1) 43 (rlCells s e) := by rw [← HW2.out, ← s1]; exact Blk.new _ _ _
 have b1 := b1.upd u2 (fun f => f);have U2 := u1.then_non u2;have e1 := HW1.out;have e2 := HW2.out;have HU := Lib.hid U2;have HKR := Lib.hid (hr.upd U2 (fun _ _ _ f => f));have HKS := Lib.hid (hs.upd U2 (fun _ _ _ f => f));have HB1 := Lib.hid b1;have HB2 := Lib.hid b2;have hb1 := b1;have hb2 := b2;unfold rlCells at hb1 hb2 e1 e2;have c1 := hb1.cell 1;have c2 := hb1.cell 2;have c3 := hb1.cell 3
 have c4 := hb1.cell 4;have c5 := hb1.cell 5;have c6 := hb1.cell 6;have c7 := hb1.cell 7;have c8 := hb1.cell 8;have c9 := hb1.cell 9;have c10 := hb1.cell 10;have c11 := hb1.cell 11;have c12 := hb1.cell 12;have c13 := hb1.cell 13;have d1 := hb2.cell 1;have d2 := hb2.cell 2;have d3 := hb2.cell 3;have d4 := hb2.cell 4;have d5 := hb2.cell 5;have d6 := hb2.cell 6;have d7 := hb2.cell 7
 have d8 := hb2.cell 8;have d9 := hb2.cell 9;have d10 := hb2.cell 10;have d11 := hb2.cell 11;have d12 := hb2.cell 12;have d13 := hb2.cell 13
 have CL := Lib.hid (fun W (u : Upd Non W2 W) => samePattern_c r.l s.l W F G a.la e.la a.lc e.lc (PtK.upd u (fun _ _ _ f => f) _ _ _ HKR.out.l) (PtK.upd u (fun _ _ _ f => f) _ _ _ HKS.out.l) hz.l)
 have CR := Lib.hid (fun W (u : Upd Non W2 W) => samePattern_c r.r s.r W F G a.ra e.ra a.rc e.rc (PtK.upd u (fun _ _ _ f => f) _ _ _ HKR.out.r) (PtK.upd u (fun _ _ _ f => f) _ _ _ HKS.out.r) hz.r)
 unfold pv at CL CR;unfold rlv rlCells;have hcz := hz.c;obtain ⟨pn, Hpn⟩ := nm r.conds.length;obtain ⟨qn, Hqn⟩ := nm s.conds.length;rw [Hpn.out] at c11 e1 HE hcz;rw [Hqn.out] at d11 e2 HE;rw [Hpn.out, Hqn.out];obtain ⟨B1, HB1_⟩ := nm (ptE r.l s.l);obtain ⟨B2, HB2_⟩ := nm (ptE r.r s.r);rw [HB1_.out] at CL HE;rw [HB2_.out] at CR HE;clear hr hs u1 u2 b1 b2 U2 HW1 HW2 hb1 hb2 hz
 by_cases h1 : r.vars = s.vars
 ·
  by_cases h2 : r.imms = s.imms
  ·
   by_cases h3 : pn = qn
   ·
    have t1 : (r.vars != s.vars) = false := by simpa using h1
    have t2 : (r.imms != s.imms) = false := by simpa using h2
    have t3 : ((pn : Int) != (qn : Int)) = false := by simp [h3]
    rw [decide_eq_true ⟨h1, h2, h3⟩, Bool.true_and] at HE;clear h1 h2;subst h3;obtain ⟨n, rfl⟩ : ∃ m, m = pn := ⟨_, rfl⟩;go_enter Tryz.func20, Tryz.ntmps20
    go_wp2_with fail
    refine (CL.out _ Upd.refl).mono ?_;rintro en w3 ⟨rfl, u3⟩;clear CL e1 e2
    cases B1 with
    | false =>
     have HF : Hid (res = false) := by show _ = _; rw [HE.out]; rfl
     go_wp2_with fail
     go_ret;exact ⟨by rw [HF.out]; rfl, HU.out.then_non u3⟩
    | true =>
     have c6 := cell_upd c6 u3 (fun f => f);have c7 := cell_upd c7 u3 (fun f => f);have c8 := cell_upd c8 u3 (fun f => f);have c9 := cell_upd c9 u3 (fun f => f);have c10 := cell_upd c10 u3 (fun f => f);have c11 := cell_upd c11 u3 (fun f => f);have d6 := cell_upd d6 u3 (fun f => f);have d7 := cell_upd d7 u3 (fun f => f);have d8 := cell_upd d8 u3 (fun f => f)
     have d9 := cell_upd d9 u3 (fun f => f);have d10 := cell_upd d10 u3 (fun f => f);have d11 := cell_upd d11 u3 (fun f => f)
     go_wp2_with fail
     refine (CR.out _ u3).mono ?_;rintro en w4 ⟨rfl, u4⟩;clear CR;have U4 : Upd Non W2 w4 := u3.then_non u4
     cases B2 with
     | false =>
      have HF : Hid (res = false) := by show _ = _; rw [HE.out]; rfl
      go_wp2_with fail
      go_ret;exact ⟨by rw [HF.out]; rfl, HU.out.then_non U4⟩
     | true =>
      have HD : Hid (res = decide (r.conds = s.conds)) := by show _ = _; rw [HE.out]; rfl
      have c11 := cell_upd c11 u4 (fun f => f);have d11 := cell_upd d11 u4 (fun f => f);have HU4 := Lib.hid U4;clear t1 t2 t3 U4 c1 c2 c3 c4 c5 c6 c7 c8 c9 c10 c12 c13 d1 d2 d3 d4 d5 d6 d7 d8 d9 d10 d12 d13
      go_wp2_with fail
      go_loopg [5] n (fun g  iv wr => ∃ k : Nat, Hid (g = n - k) ∧ k ≤ n ∧ iv = .int .i64 k ∧ Hid (r.conds.take k = s.conds.take k) ∧ Hid (Upd Non w4 wr))
      case atStart => exact ⟨0, rfl, Nat.zero_le _, rfl, by show _ = _; simp, Upd.refl⟩
      case round =>
       obtain ⟨k, Hg, hk, rfl, HA, Hu⟩ := hrel;have c11 := cell_upd c11 Hu.out (fun f => f);have d11 := cell_upd d11 Hu.out (fun f => f);have HUW := Lib.hid (HU4.out.then_non Hu.out)
       by_cases hlt : k < n
       ·
        have hkl : k < r.conds.length := by rw [Hpn.out]; exact hlt
        have hkq : k < s.conds.length := by rw [Hqn.out]; exact hlt
        have hta := (HKR.out.c.upd HUW.out (fun _ _ _ f => f)).take hkl;have htb := (HKS.out.c.upd HUW.out (fun _ _ _ f => f)).take hkq
        have HNX : Hid (¬ r.conds[k] = s.conds[k] → res = false) := fun h => by
         rw [HD.out];refine decide_eq_false (fun q => h ?_);simp only [q]
        have HNY : Hid (r.conds[k] = s.conds[k] → r.conds.take (k + 1) = s.conds.take (k + 1)) := fun h => by rw [take_snoc' hkl, take_snoc' hkq, HA.out, h]
        generalize r.conds[k] = x at *;generalize s.conds[k] = z at *;obtain ⟨ca, Hca⟩ := nm a.ca;obtain ⟨ce, Hce⟩ := nm e.ca;rw [Hca.out] at hta c11;rw [Hce.out] at htb d11;obtain ⟨b, o, rfl, hbw, g0, g1, g2, g3⟩ := hta;obtain ⟨b2, o2, rfl, hbw2, k0, k1, k2, k3⟩ := htb
        go_upto_region 6 with fail
        go_cut [60] (fun s wx => s = .bool (!decide (x = z)) ∧ Upd Non wr wx)
        case first =>
         obtain ⟨wD, HwD⟩ := nm wr.drew
         have uD : Upd Non wr wD := by rw [← HwD.out]; exact Upd.refl.drew
         refine wp_region_held_drew (S := fun w' => w'.cell? ⟨w.heap.size, 11, none⟩ = some (.slice (some ⟨b, o, none⟩) n a.cc) ∧ w'.cell? ⟨w.heap.size + 1, 11, none⟩ = some (.slice (some ⟨b2, o2, none⟩) n e.cc) ∧ w'.cell? ⟨b, o + k * 4, none⟩ = some (.int .i64 x.kind) ∧ w'.cell? ⟨b, o + k * 4 + 1, none⟩ = some (.int .i64 x.a) ∧ w'.cell? ⟨b, o + k * 4 + 2, none⟩ = some (.int .i64 x.b) ∧ w'.cell? ⟨b, o + k * 4 + 3, none⟩ = some (.int .i64 x.n) ∧ w'.cell? ⟨b2, o2 + k * 4, none⟩ = some (.int .i64 z.kind) ∧ w'.cell? ⟨b2, o2 + k * 4 + 1, none⟩ = some (.int .i64 z.a) ∧ w'.cell? ⟨b2, o2 + k * 4 + 2, none⟩ = some (.int .i64 z.b) ∧ w'.cell? ⟨b2, o2 + k * 4 + 3, none⟩ = some (.int .i64 z.n)) (by kernel_rfl) (by rw [HwD.out]; exact ⟨cell_upd c11 uD (fun f => f), cell_upd d11 uD (fun f => f), cell_upd g0 uD (fun f => f), cell_upd g1 uD (fun f => f), cell_upd g2 uD (fun f => f), cell_upd g3 uD (fun f => f), cell_upd k0 uD (fun f => f), cell_upd k1 uD (fun f => f), cell_upd k2 uD (fun f => f), cell_upd k3 uD (fun f => f)⟩) (fun hHeld => ?_)
         rw [HwD.out] at hHeld ⊢
         have HXZ : Hid (x = z ↔ x.kind = z.kind ∧ x.a = z.a ∧ x.b = z.b ∧ x.n = z.n) := by
          show _ ↔ _
          cases x; cases z; simp
         by_cases q0 : x.kind = z.kind
         ·
          by_cases q1 : x.a = z.a
          ·
           by_cases q2 : x.b = z.b
           ·
            by_cases q3 : x.n = z.n
            ·
             have HDC : Hid (decide (x = z) = true) := decide_eq_true (HXZ.out.2 ⟨q0, q1, q2, q3⟩);refine wpT 0 ?_
             try simp only [put_y, put_z]
             refine wpT 1 ?_
             try simp only [put_y, put_z]
             refine wpT 2 ?_
             try simp only [put_y, put_z]
             refine wpT 3 ?_
             try simp only [put_y, put_z]
             refine wpT 4 ?_
             try simp only [put_y, put_z]
             refine wpT 5 ?_
             try simp only [put_y, put_z]
             refine wpT 6 ?_
             try simp only [put_y, put_z]
             refine wpT 7 ?_
             try simp only [put_y, put_z]
             refine wpT 8 ?_
             try simp only [put_y, put_z]
             refine wpT 9 ?_
             try simp only [put_y, put_z]
             refine wpT 10 ?_
             try simp only [put_y, put_z]
             refine wpAnyH_done (by kernel_rfl) ?_ _
             go_wp2_with fail
             go_meet
             case rel => exact ⟨by rw [HDC.out]; rfl, uD⟩
            ·
             have HDC : Hid (decide (x = z) = false) := decide_eq_false (fun h => q3 (HXZ.out.1 h).2.2.2);refine wpT 0 ?_
             try simp only [put_y, put_z]
             refine wpT 1 ?_
             try simp only [put_y, put_z]
             refine wpT 2 ?_
             try simp only [put_y, put_z]
             refine wpT 3 ?_
             try simp only [put_y, put_z]
             refine wpT 4 ?_
             try simp only [put_y, put_z]
             refine wpT 5 ?_
             try simp only [put_y, put_z]
             refine wpT 6 ?_
             try simp only [put_y, put_z]
             refine wpT 7 ?_
             try simp only [put_y, put_z]
             refine wpT 8 ?_
             try simp only [put_y, put_z]
             refine wpT 9 ?_
             try simp only [put_y, put_z]
             refine wpT 10 ?_
             try simp only [put_y, put_z]
             refine wpAnyH_done (by kernel_rfl) ?_ _
             go_wp2_with fail
             go_meet
             case rel => exact ⟨by rw [HDC.out]; rfl, uD⟩
           ·
            have HDC : Hid (decide (x = z) = false) := decide_eq_false (fun h => q2 (HXZ.out.1 h).2.2.1);refine wpT 0 ?_
            try simp only [put_y, put_z]
            refine wpT 1 ?_
            try simp only [put_y, put_z]
            refine wpT 2 ?_
            try simp only [put_y, put_z]
            refine wpT 3 ?_
            try simp only [put_y, put_z]
            refine wpT 4 ?_
            try simp only [put_y, put_z]
            refine wpT 5 ?_
            try simp only [put_y, put_z]
            refine wpT 6 ?_
            try simp only [put_y, put_z]
            refine wpT 7 ?_
            try simp only [put_y, put_z]
            refine wpT 8 ?_
            try simp only [put_y, put_z]
            refine wpT 9 ?_
            try simp only [put_y, put_z]
            refine wpT 10 ?_
            try simp only [put_y, put_z]
            refine wpAnyH_done (by kernel_rfl) ?_ _
            go_wp2_with fail
            go_meet
            case rel => exact ⟨by rw [HDC.out]; rfl, uD⟩
          ·
           have HDC : Hid (decide (x = z) = false) := decide_eq_false (fun h => q1 (HXZ.out.1 h).2.1);refine wpT 0 ?_
           try simp only [put_y, put_z]
           refine wpT 1 ?_
           try simp only [put_y, put_z]
           refine wpT 2 ?_
           try simp only [put_y, put_z]
           refine wpT 3 ?_
           try simp only [put_y, put_z]
           refine wpT 4 ?_
           try simp only [put_y, put_z]
           refine wpT 5 ?_
           try simp only [put_y, put_z]
           refine wpT 6 ?_
           try simp only [put_y, put_z]
           refine wpT 7 ?_
           try simp only [put_y, put_z]
           refine wpT 8 ?_
           try simp only [put_y, put_z]
           refine wpT 9 ?_
           try simp only [put_y, put_z]
           refine wpT 10 ?_
           try simp only [put_y, put_z]
           refine wpAnyH_done (by kernel_rfl) ?_ _
           go_wp2_with fail
           go_meet
           case rel => exact ⟨by rw [HDC.out]; rfl, uD⟩
         ·
          have HDC : Hid (decide (x = z) = false) := decide_eq_false (fun h => q0 (HXZ.out.1 h).1);refine wpT 0 ?_
          try simp only [put_y, put_z]
          refine wpT 1 ?_
          try simp only [put_y, put_z]
          refine wpT 2 ?_
          try simp only [put_y, put_z]
          refine wpT 3 ?_
          try simp only [put_y, put_z]
          refine wpT 4 ?_
          try simp only [put_y, put_z]
          refine wpT 5 ?_
          try simp only [put_y, put_z]
          refine wpT 6 ?_
          try simp only [put_y, put_z]
          refine wpT 7 ?_
          try simp only [put_y, put_z]
          refine wpT 8 ?_
          try simp only [put_y, put_z]
          refine wpT 9 ?_
          try simp only [put_y, put_z]
          refine wpT 10 ?_
          try simp only [put_y, put_z]
          refine wpAnyH_done (by kernel_rfl) ?_ _
          go_wp2_with fail
          go_meet
          case rel => exact ⟨by rw [HDC.out]; rfl, uD⟩
        case rest =>
         obtain ⟨rfl, hwc⟩ := hcut;have HUC := Lib.hid (Hu.out.then_non hwc);have c11 := cell_upd c11 hwc (fun f => f);clear g0 g1 g2 g3 k0 k1 k2 k3 hwc;obtain ⟨B, HB⟩ := nm (decide (x = z));rw [HB.out]
         cases B with
         | false =>
          have HF : Hid (res = false) := HNX.out (of_decide_eq_false HB.out)
          go_wp2_with fail
          go_ret;exact ⟨by rw [HF.out]; rfl, (HU.out.then_non HU4.out).then_non HUC.out⟩
         | true =>
          have HA2 := Lib.hid (HNY.out (of_decide_eq_true HB.out))
          go_wp2_with fail
          go_roundg (n - (k + 1))
          case measure => rw [Hg.out]; omega
          case rel => exact ⟨k + 1, rfl, by omega, by go_num, HA2, HUC⟩
       ·
        obtain rfl : n = k := by omega
        have HT : Hid (res = true) := by
         show _ = _;rw [HD.out];have h := HA.out;rw [← Hpn.out, List.take_length, Hpn.out, ← Hqn.out, List.take_length] at h;exact decide_eq_true h
        go_wp2_with fail
        go_ret;exact ⟨by rw [HT.out]; rfl, (HU.out.then_non HU4.out).then_non Hu.out⟩
   ·
    have t1 : (r.vars != s.vars) = false := by simpa using h1
    have t2 : (r.imms != s.imms) = false := by simpa using h2
    have t3 : ((pn : Int) != (qn : Int)) = true := by simpa using fun e => h3 (by omega)
    have HR : Hid (res = false) := by show _ = _; rw [HE.out, decide_eq_false (fun h => h3 h.2.2)]; rfl
    clear h1 h2 h3;go_enter Tryz.func20, Tryz.ntmps20
    go_wp2_with fail
    go_ret;exact ⟨by rw [HR.out]; rfl, HU.out⟩
  ·
   have t1 : (r.vars != s.vars) = false := by simpa using h1
   have t2 : (r.imms != s.imms) = true := by simpa using h2
   have HR : Hid (res = false) := by show _ = _; rw [HE.out, decide_eq_false (fun h => h2 h.2.1)]; rfl
   clear h1 h2;go_enter Tryz.func20, Tryz.ntmps20
   go_wp2_with fail
   go_ret;exact ⟨by rw [HR.out]; rfl, HU.out⟩
 ·
  have t1 : (r.vars != s.vars) = true := by simpa using h1
  have HR : Hid (res = false) := by show _ = _; rw [HE.out, decide_eq_false (fun h => h1 h.1)]; rfl
  clear h1;go_enter Tryz.func20, Tryz.ntmps20
  go_wp2_with fail
  go_ret;exact ⟨by rw [HR.out]; rfl, HU.out⟩
set_option maxRecDepth 100000 in
set_option maxHeartbeats 2000000 in
theorem sameRules_c (L M : List Rl) (w : World) (F G : Nat → Prop) (A B : Option Addr) (c d : Nat) (hL : RlsV w F A L) (hM : RlsV w G B M) (hz : ∀ r ∈ L, RlSz r) (hn : L.length ≤ 1000000000000) :
  Calls Tryz.prog 12 #[.slice A L.length c, .slice B M.length d] w fun en w' => en = .returned (.bool (rlsE L M)) ∧ Upd Non w w' := by
 have HE : Hid (∀ h : rlsE L M = false, rlsE L M = false) := fun h => h
 have HL := Lib.hid hL;have HM := Lib.hid hM;have HZ := Lib.hid hz
 have HLE : Hid (L.length ≠ M.length → rlsE L M = false) := fun h => by
  cases hq : rlsE L M with
  | false => rfl
  | true => exact absurd (rlsE_len hq) h
 have HNO : Hid (∀ i (h1 : i < L.length) (h2 : i < M.length), (¬ L[i].name = M[i].name ∨ rlE L[i] M[i] = false) → rlsE L M = false) := fun i h1 h2 h => rlsE_no h1 h2 h
 have HYES : Hid (L.length = M.length → (∀ i (h1 : i < L.length) (h2 : i < M.length), L[i].name = M[i].name ∧ rlE L[i] M[i] = true) → rlsE L M = true) := fun h k => rlsE_of h k
 obtain ⟨res, Hres⟩ := nm (rlsE L M);rw [Hres.out] at HLE HNO HYES ⊢;clear HE Hres hL hM hz;obtain ⟨n, Hn⟩ := nm L.length;obtain ⟨m, Hm⟩ := nm M.length;rw [Hn.out] at hn HLE;rw [Hm.out] at HLE;rw [Hn.out, Hm.out]
 by_cases hnm : n = m
 ·
  have t0 : ((n : Int) != (m : Int)) = false := by simp [hnm]
  subst hnm;obtain ⟨nn, rfl⟩ : ∃ q, q = n := ⟨_, rfl⟩;go_enter Tryz.func12, Tryz.ntmps12
  go_wp2_with fail
  go_loopg [5] nn (fun g iv wr => ∃ k : Nat, Hid (g = nn - k) ∧ k ≤ nn ∧ iv = .int .i64 k ∧ Hid (∀ i (h1 : i < L.length) (h2 : i < M.length), i < k → L[i].name = M[i].name ∧ rlE L[i] M[i] = true) ∧ Hid (Upd Non w wr))
  case atStart => exact ⟨0, rfl, Nat.zero_le _, rfl, fun i _ _ h => by omega, Upd.refl⟩
  case round =>
   obtain ⟨k, Hg, hk, rfl, HA, HU⟩ := hrel
   by_cases hlt : k < nn
   ·
    have hkl : k < L.length := by rw [Hn.out]; exact hlt
    have hkm : k < M.length := by rw [Hm.out]; exact hlt
    have HX := Lib.hid (HL.out.upd HU.out (fun _ _ _ f => f));have HY := Lib.hid (HM.out.upd HU.out (fun _ _ _ f => f));obtain ⟨b, o, a, rfl, _, hbw, hat, hrk⟩ := HX.out.at_ hkl;obtain ⟨b2, o2, e, rfl, _, hbw2, hat2, hsk⟩ := HY.out.at_ hkm;have HRZ := Lib.hid (HZ.out _ (List.getElem_mem hkl));have HN1 : Hid (¬ L[k].name = M[k].name ∨ rlE L[k] M[k] = false → res = false) := HNO.out k hkl hkm
    have HA2 : Hid (L[k].name = M[k].name → rlE L[k] M[k] = true → ∀ i (h1 : i < L.length) (h2 : i < M.length), i < k + 1 → L[i].name = M[i].name ∧ rlE L[i] M[i] = true) := fun g1 g2 i h1 h2 h => by
     by_cases q : i < k
     ·
      exact HA.out i h1 h2 q
     ·
      obtain rfl : i = k := by omega
      exact ⟨g1, g2⟩
    clear HX HY;generalize L[k] = r at *;generalize M[k] = s at *;obtain ⟨wD, HwD⟩ := nm wr.drew
    have uD : Upd Non wr wD := by rw [← HwD.out]; exact Upd.refl.drew
    have CS := Lib.hid (fun W (u : Upd Non wr W) => sameRule_c r a s e W F G (hrk.upd u (fun _ _ _ f => f)) (hsk.upd u (fun _ _ _ f => f)) HRZ.out)
    have HRS : Hid (∀ W, Upd Non wr W → RlAt W b (o + k * 14) r a ∧ RlAt W b2 (o2 + k * 14) s e) := fun W u => ⟨hat.upd u (fun f => f), hat2.upd u (fun f => f)⟩
    have HrD := Lib.hid (hat.upd uD (fun f => f));have HsD := Lib.hid (hat2.upd uD (fun f => f));clear hat hat2 hrk hsk;unfold rlv rlCells at CS;unfold RlAt at HRS HrD HsD;obtain ⟨E, HE⟩ := nm (rlE r s);rw [HE.out] at CS HN1 HA2;obtain ⟨na, Hna⟩ := nm r.name;obtain ⟨nb, Hnb⟩ := nm s.name;rw [Hna.out, Hnb.out] at CS HN1 HA2;rw [Hna.out] at HrD;rw [Hnb.out] at HsD;rw [Hna.out, Hnb.out] at HRS
    go_upto_region 6 with fail
    go_cut [39] (fun v wx => v = .bool (!(decide (na = nb) && E)) ∧ Upd Non wr wx)
    case first =>
     refine wp_region_held_drew (S := fun w' => (w'.cell? ⟨b, o + k * 14, none⟩ = some (.string na) ∧ w'.cell? ⟨b, o + k * 14 + 1, none⟩ = some (.int .i64 r.l.v) ∧ w'.cell? ⟨b, o + k * 14 + 2, none⟩ = some (.int .i64 r.l.op) ∧ w'.cell? ⟨b, o + k * 14 + 3, none⟩ = some (.int .i64 r.l.imm) ∧ w'.cell? ⟨b, o + k * 14 + 4, none⟩ = some (.int .i64 r.l.iv) ∧ w'.cell? ⟨b, o + k * 14 + 5, none⟩ = some (.slice a.la r.l.kids.length a.lc) ∧ w'.cell? ⟨b, o + k * 14 + 6, none⟩ = some (.int .i64 r.r.v) ∧ w'.cell? ⟨b, o + k * 14 + 7, none⟩ = some (.int .i64 r.r.op) ∧ w'.cell? ⟨b, o + k * 14 + 8, none⟩ = some (.int .i64 r.r.imm) ∧ w'.cell? ⟨b, o + k * 14 + 9, none⟩ = some (.int .i64 r.r.iv) ∧ w'.cell? ⟨b, o + k * 14 + 10, none⟩ = some (.slice a.ra r.r.kids.length a.rc) ∧ w'.cell? ⟨b, o + k * 14 + 11, none⟩ = some (.slice a.ca r.conds.length a.cc) ∧ w'.cell? ⟨b, o + k * 14 + 12, none⟩ = some (.int .i64 r.vars) ∧ w'.cell? ⟨b, o + k * 14 + 13, none⟩ = some (.int .i64 r.imms)) ∧ w'.cell? ⟨b2, o2 + k * 14, none⟩ = some (.string nb) ∧ w'.cell? ⟨b2, o2 + k * 14 + 1, none⟩ = some (.int .i64 s.l.v) ∧ w'.cell? ⟨b2, o2 + k * 14 + 2, none⟩ = some (.int .i64 s.l.op) ∧ w'.cell? ⟨b2, o2 + k * 14 + 3, none⟩ = some (.int .i64 s.l.imm) ∧ w'.cell? ⟨b2, o2 + k * 14 + 4, none⟩ = some (.int .i64 s.l.iv) ∧ w'.cell? ⟨b2, o2 + k * 14 + 5, none⟩ = some (.slice e.la s.l.kids.length e.lc) ∧ w'.cell? ⟨b2, o2 + k * 14 + 6, none⟩ = some (.int .i64 s.r.v) ∧ w'.cell? ⟨b2, o2 + k * 14 + 7, none⟩ = some (.int .i64 s.r.op) ∧ w'.cell? ⟨b2, o2 + k * 14 + 8, none⟩ = some (.int .i64 s.r.imm) ∧ w'.cell? ⟨b2, o2 + k * 14 + 9, none⟩ = some (.int .i64 s.r.iv) ∧ w'.cell? ⟨b2, o2 + k * 14 + 10, none⟩ = some (.slice e.ra s.r.kids.length e.rc) ∧ w'.cell? ⟨b2, o2 + k * 14 + 11, none⟩ = some (.slice e.ca s.conds.length e.cc) ∧ w'.cell? ⟨b2, o2 + k * 14 + 12, none⟩ = some (.int .i64 s.vars) ∧ w'.cell? ⟨b2, o2 + k * 14 + 13, none⟩ = some (.int .i64 s.imms)) (by kernel_rfl) (by rw [HwD.out]; exact ⟨HrD.out, HsD.out⟩) (fun hHeld => ?_)
     rw [HwD.out] at hHeld ⊢
     by_cases hq : na = nb
     ·
      have hq1 : (na.toList != nb.toList) = false := by simp [hq]
      have hq2 : (na.toList == nb.toList) = true := by simp [hq]
      have HQ : Hid (decide (na = nb) = true) := decide_eq_true hq;clear hq;refine wpT 0 ?_
      try simp only [put_y, put_z]
      refine wpT 1 ?_
      try simp only [put_y, put_z]
      refine wpT 2 ?_
      try simp only [put_y, put_z]
      refine wpT 3 ?_
      try simp only [put_y, put_z]
      refine wpT 4 ?_
      try simp only [put_y, put_z]
      refine wpT 5 ?_
      try simp only [put_y, put_z]
      refine wpT 6 ?_
      try simp only [put_y, put_z]
      refine wpT 7 ?_
      try simp only [put_y, put_z]
      refine wpT 8 ?_
      try simp only [put_y, put_z]
      refine wpT 9 ?_
      try simp only [put_y, put_z]
      refine wpT 10 ?_
      try simp only [put_y, put_z]
      refine wpT 11 ?_
      try simp only [put_y, put_z]
      refine wpT 12 ?_
      try simp only [put_y, put_z]
      refine wpT 13 ?_
      try simp only [put_y, put_z]
      refine wpT 14 ?_
      try simp only [put_y, put_z]
      refine wpT 15 ?_
      try simp only [put_y, put_z]
      refine wpT 16 ?_
      try simp only [put_y, put_z]
      refine wpT 17 ?_
      try simp only [put_y, put_z]
      refine wpT 18 ?_
      try simp only [put_y, put_z]
      refine wpT 19 ?_
      try simp only [put_y, put_z]
      refine wpAnyH_ready (rs := [20]) (by kernel_rfl) (by simp) ?_;refine AllReadyH.cons rfl (fun K hK => ?_) AllReadyH.nil;go_simp;refine (CS.out _ uD).mono ?_;rintro en w5 ⟨rfl, u5⟩;have h5 : Upd Non wr w5 := uD.then_non u5
      go_wp2_with fail
      refine hK.out _ _ ?_ (fun hHeld => ?_)
      ·
       exact HRS.out w5 h5
      clear hK K
      try simp only [put_y, put_z]
      refine wpT 21 ?_
      try simp only [put_y, put_z]
      refine wpT 22 ?_
      try simp only [put_y, put_z]
      refine wpAnyH_done (by kernel_rfl) ?_ _
      go_wp2_with fail
      go_meet
      case rel => exact ⟨by rw [HQ.out]; rfl, h5⟩
     ·
      have hq1 : (na.toList != nb.toList) = true := by simpa using fun q => hq (by rw [ByteArray.toList_eq, ByteArray.toList_eq] at q; cases na; cases nb; simpa using q)
      have hq2 : (na.toList == nb.toList) = false := by simpa using fun q => hq (by rw [ByteArray.toList_eq, ByteArray.toList_eq] at q; cases na; cases nb; simpa using q)
      have HQ : Hid (decide (na = nb) = false) := decide_eq_false hq;clear hq;refine wpT 0 ?_
      try simp only [put_y, put_z]
      refine wpT 1 ?_
      try simp only [put_y, put_z]
      refine wpT 2 ?_
      try simp only [put_y, put_z]
      refine wpT 3 ?_
      try simp only [put_y, put_z]
      refine wpT 4 ?_
      try simp only [put_y, put_z]
      refine wpT 5 ?_
      try simp only [put_y, put_z]
      refine wpT 6 ?_
      try simp only [put_y, put_z]
      refine wpT 7 ?_
      try simp only [put_y, put_z]
      refine wpT 8 ?_
      try simp only [put_y, put_z]
      refine wpT 9 ?_
      try simp only [put_y, put_z]
      refine wpT 10 ?_
      try simp only [put_y, put_z]
      refine wpT 11 ?_
      try simp only [put_y, put_z]
      refine wpU 12 ?_
      try simp only [put_y, put_z]
      refine wpU 13 ?_
      try simp only [put_y, put_z]
      refine wpU 14 ?_
      try simp only [put_y, put_z]
      refine wpU 15 ?_
      try simp only [put_y, put_z]
      refine wpU 16 ?_
      try simp only [put_y, put_z]
      refine wpU 17 ?_
      try simp only [put_y, put_z]
      refine wpU 18 ?_
      try simp only [put_y, put_z]
      refine wpU 19 ?_
      try simp only [put_y, put_z]
      refine wpU 20 ?_
      try simp only [put_y, put_z]
      refine wpU 21 ?_
      try simp only [put_y, put_z]
      refine wpT 22 ?_
      try simp only [put_y, put_z]
      refine wpAnyH_done (by kernel_rfl) ?_ _
      go_wp2_with fail
      go_meet
      case rel => exact ⟨by rw [HQ.out]; rfl, uD⟩
    case rest =>
     obtain ⟨rfl, hwc⟩ := hcut;have HUC := Lib.hid (HU.out.then_non hwc);clear hwc;obtain ⟨D, HD⟩ := nm (decide (na = nb) && E);rw [HD.out]
     cases D with
     | false =>
      have HF : Hid (res = false) := HN1.out (by
       have h := HD.out;rw [Bool.and_eq_false_iff] at h
       exact h.imp of_decide_eq_false id)
      go_wp2_with fail
      go_ret;exact ⟨by rw [HF.out]; rfl, HUC.out⟩
     | true =>
      have HA3 : Hid (∀ i (h1 : i < L.length) (h2 : i < M.length), i < k + 1 → L[i].name = M[i].name ∧ rlE L[i] M[i] = true) := by
       have h := HD.out;rw [Bool.and_eq_true] at h;exact HA2.out (of_decide_eq_true h.1) h.2
      go_wp2_with fail
      go_roundg (nn - (k + 1))
      case measure => rw [Hg.out]; omega
      case rel => exact ⟨k + 1, rfl, by omega, by go_num, HA3, HUC⟩
   ·
    obtain rfl : nn = k := by omega
    have HT : Hid (res = true) := HYES.out (by rw [Hn.out, Hm.out]) fun i h1 h2 => HA.out i h1 h2 (by rw [← Hn.out]; exact h1)
    go_wp2_with fail
    go_ret;exact ⟨by rw [HT.out]; rfl, HU.out⟩
 ·
  have t0 : ((n : Int) != (m : Int)) = true := by simpa using fun e => hnm (by omega)
  have HF : Hid (res = false) := HLE.out hnm;clear hnm;go_enter Tryz.func12, Tryz.ntmps12
  go_wp2_with fail
  go_ret;exact ⟨by rw [HF.out]; rfl, Upd.refl⟩
def nmIn (r : Rl) (q : List Rl) : Bool := q.any fun y => decide (r.name = y.name)
def bothF (p q : List Rl) : Bool := p.any fun x => nmIn x q
theorem bothF_snoc (p q : List Rl) (r : Rl) : bothF (p ++ [r]) q = (bothF p q || nmIn r q) := by simp [bothF]
theorem nmIn_snoc (r y : Rl) (q : List Rl) : nmIn r (q ++ [y]) = (nmIn r q || decide (r.name = y.name)) := by simp [nmIn]
theorem bothF_t {p q : List Rl} (h : bothF p q = true) : ∃ x ∈ p, ∃ y ∈ q, x.name = y.name := by
 obtain ⟨x, hx, h⟩ := List.any_eq_true.1 h;obtain ⟨y, hy, h⟩ := List.any_eq_true.1 h;exact ⟨x, hx, y, hy, of_decide_eq_true h⟩
theorem bothF_f {p q : List Rl} (h : bothF p q = false) : ∀ x ∈ p, ∀ y ∈ q, x.name ≠ y.name := fun x hx y hy e => by
 have h1 := List.any_eq_false.1 h x hx;exact h1 (List.any_eq_true.2 ⟨y, hy, decide_eq_true e⟩)
theorem wpListW_app {P : Program} {w : World} {ops : Array Oper} {rest : List Oper} {o : Oper} {a : Act} {Q : Exit → Act → World → Prop} (hw : Region.wanted o (yielded ops a.tmps) = true) {s x : Operand} {t : TypeId}
  (ho : o.op = .call { callee := .builtin .append, args := #[s, x], argTypes := #[t, t] }) {F : Nat → Prop} {e : TypeId} {size bytes : Nat} (T : SlT P t e size bytes) {A : Option Addr} {n c : Nat} {cs : List Value} (hs : a.eval s = .slice A n c) (h : Own w e size A n c cs)
  {A2 : Option Addr} {m c2 : Nat} {news : List Value} (hx : a.eval x = .slice A2 m c2) (hr : Sl w F A2 news) (hl : news.length = m * size) (h1 : ∀ u ∈ news, u.oneCell' = true) (h63 : n + m ≤ maxLen) (hb : (n + m) * bytes ≤ 140737488355328)
  (k : ∀ A' c' w', Own w' e size A' (n + m) c' (cs ++ news) → Upd (At A) w w' → (∀ k, At A' k → At A k ∨ k = w.heap.size) → wpList P ops Q rest (a.put o.dst (.slice A' (n + m) c')) w') : wpList P ops Q (o :: rest) a w := by
 show if _ then _ else _
 rw [if_pos hw];exact .inl (wp_app ho T hs h hx hr hl h1 h63 hb fun A' c' w' h2 h3 h4 => k A' c' w' h2 h3 h4)
set_option maxRecDepth 100000 in
set_option maxHeartbeats 4000000 in
theorem RuAppend_c (w : World) (a b : Int) : Calls Tryz.prog 4 #[.int .i64 a, .int .i64 b] w fun e w' => e = .returned (.bool true) ∧ Upd Non w w' := by
 have CS := Lib.hid (fun m W => someRules_c m W);have CE := Lib.hid (fun W => RuExamples_c W);go_enter Tryz.func4, Tryz.ntmps4
 go_wp2_with fail
 refine (CS.out a w).mono ?_;rintro e w1 ⟨p, A1, c1, hp, rfl, hv1, hc1, u1⟩
 go_wp2_with fail
 refine (CS.out b w1).mono ?_;rintro e w2 ⟨q, A2, c2, hq, rfl, hv2, hc2, u2⟩;have HP := Lib.hid hp;have HQ := Lib.hid hq;have HV1 := Lib.hid (hv1.upd u2 (fun _ _ _ f => f));have HV2 := Lib.hid hv2;have HU2 := Lib.hid (u1.then_non u2);have HPK := Lib.hid (kr_ok hp);have HQK := Lib.hid (kr_ok hq);have hpl := kr_len hp;have hql := kr_len hq
 have C1 := Lib.hid (fun W (u : Upd Non w2 W) => rPrint_c W _ A1 c1 p (HV1.out.upd u (fun _ _ _ f => f)) (fun r hr => (HPK.out r hr).sz) (fun r hr => (HPK.out r hr).i) (by omega))
 have C2 := Lib.hid (fun W (u : Upd Non w2 W) => rPrint_c W _ A2 c2 q (HV2.out.upd u (fun _ _ _ f => f)) (fun r hr => (HQK.out r hr).sz) (fun r hr => (HQK.out r hr).i) (by omega))
 have hzp : (kstr (printF p)).size ≤ 9000 := by rw [kstr_size, kr_print hp]; exact kr_size hp
 have hzq : (kstr (printF q)).size ≤ 9000 := by rw [kstr_size, kr_print hq]; exact kr_size hq
 obtain ⟨ps, Hps⟩ := nm (kstr (printF p));obtain ⟨pt, Hpt⟩ := nm (kstr (printF q));rw [Hps.out] at C1 hzp;rw [Hpt.out] at C2 hzq;obtain ⟨m, Hm⟩ := nm p.length;obtain ⟨n, Hn⟩ := nm q.length;rw [Hm.out] at C1 hc1 hpl ⊢;rw [Hn.out] at C2 hc2 hql ⊢;clear hp hq hv1 hv2 u1 u2
 go_wp2_with fail
 refine (C1.out _ Upd.refl).mono ?_;rintro e w3 ⟨rfl, u3⟩;have C2 := Lib.hid (C2.out _ u3)
 go_wp2_with fail
 refine C2.out.mono ?_;rintro e w4 ⟨rfl, u4⟩;have HV1 := Lib.hid (HV1.out.upd (u3.then_non u4) (fun _ _ _ f => f));have HV2 := Lib.hid (HV2.out.upd (u3.then_non u4) (fun _ _ _ f => f));have HU4 := Lib.hid ((HU2.out.then_non u3).then_non u4);clear u3 u4 C1 C2 HU2
 go_wp2_with fail
 go_loopg [9, 11, 13, 26] m (fun g bv _ _ iv wr => ∃ (j : Nat) (B : Bool), Hid (g = m - j) ∧ j ≤ m ∧ iv = .int .i64 j ∧ bv = .bool B ∧ Hid (B = bothF (p.take j) q) ∧ Hid (Upd Non w4 wr))
 case atStart => exact ⟨0, false, rfl, Nat.zero_le _, rfl, rfl, rfl, Upd.refl⟩
 case round =>
  obtain ⟨j, B, Hg, hj, rfl, rfl, HB, HU⟩ := hrel
  by_cases hlt : j < m
  ·
   have hkl : j < p.length := by rw [Hm.out]; exact hlt
   obtain ⟨b1, o1, a1, rfl, _, hbw, hat, hrk⟩ := (HV1.out.upd HU.out (fun _ _ _ f => f)).at_ hkl;have HTK : Hid (p.take (j + 1) = p.take j ++ [p[j]]) := take_snoc' hkl;clear hrk;generalize p[j] = r at *;unfold RlAt at hat;obtain ⟨x0, x1, x2, x3, x4, x5, x6, x7, x8, x9, x10, x11, x12, x13⟩ := hat;obtain ⟨W5, HW5⟩ := nm (wr.alloc (.cells (rlCells r a1) 43))
   have u5 : Upd Non wr W5 := by rw [← HW5.out]; exact Upd.refl.alloc _
   have b5 : Blk W5 wr.heap.size 43 (rlCells r a1) := by rw [← HW5.out]; exact Blk.new _ _ _
   have e5 := HW5.out;unfold rlCells at e5;have HB5 := Lib.hid b5;have HU5 := Lib.hid (HU.out.then_non u5);clear u5 b5
   go_upto_region 7 with fail
   try rw [e5]
   clear x0 x1 x2 x3 x4 x5 x6 x7 x8 x9 x10 x11 x12 x13 e5
   go_wp2_with fail
   go_loopg [9, 13, 32] n (fun g bv _ iv wq => ∃ (i : Nat) (B2 : Bool), Hid (g = n - i) ∧ i ≤ n ∧ iv = .int .i64 i ∧ bv = .bool B2 ∧ Hid (B2 = (B || nmIn r (q.take i))) ∧ Hid (Upd Non W5 wq))
   case atStart => exact ⟨0, B, rfl, Nat.zero_le _, rfl, rfl, by show _ = _; simp [nmIn], Upd.refl⟩
   case round =>
    obtain ⟨i, B2, Hgi, hi, rfl, rfl, HB2, HUI⟩ := hrel
    by_cases hit : i < n
    ·
     have hil : i < q.length := by rw [Hn.out]; exact hit
     obtain ⟨b2, o2, a2, rfl, _, hbw2, hat, hrk⟩ := (HV2.out.upd (HU5.out.then_non HUI.out) (fun _ _ _ f => f)).at_ hil;have HTQ : Hid (q.take (i + 1) = q.take i ++ [q[i]]) := take_snoc' hil;clear hrk;generalize q[i] = y at *;unfold RlAt at hat;obtain ⟨x0, x1, x2, x3, x4, x5, x6, x7, x8, x9, x10, x11, x12, x13⟩ := hat;obtain ⟨W6, HW6⟩ := nm (wr.alloc (.cells (rlCells y a2) 43))
     have u6 : Upd Non wr W6 := by rw [← HW6.out]; exact Upd.refl.alloc _
     have b6 : Blk W6 wr.heap.size 43 (rlCells y a2) := by rw [← HW6.out]; exact Blk.new _ _ _
     have e6 := HW6.out;unfold rlCells at e6;have d5 := HB5.out.upd (HUI.out.then_non u6) (fun f => f);have y0 := d5.cell 0;have z0 := b6.cell 0;have HU6 := Lib.hid (HUI.out.then_non u6);unfold rlCells at y0 z0;clear u6 b6 d5;obtain ⟨D, HD⟩ := nm (decide (r.name = y.name))
     have HDN : Hid (nmIn r (q.take (i + 1)) = (nmIn r (q.take i) || D)) := by show _ = _; rw [HTQ.out, nmIn_snoc, HD.out]
     have tq : (r.name.toList == y.name.toList) = D := by
      rw [← HD.out]
      by_cases h : r.name = y.name
      ·
       simp [h]
      ·
       rw [decide_eq_false h]
       simpa using fun q => h (by rw [ByteArray.toList_eq, ByteArray.toList_eq] at q; cases hr : r.name; cases hy : y.name; rw [hr, hy] at q; simpa using q)
     obtain ⟨nx, Hnx⟩ := nm r.name;obtain ⟨ny, Hny⟩ := nm y.name;rw [Hnx.out] at y0 tq;rw [Hny.out] at z0 tq x0 e6
     go_upto_region 10 with fail
     try rw [e6]
     clear x0 x1 x2 x3 x4 x5 x6 x7 x8 x9 x10 x11 x12 x13 e6
     cases B2 with
     | true =>
      go_wp2_with fail
      go_roundg (n - (i + 1))
      case measure => rw [Hgi.out]; omega
      case rel => exact ⟨i + 1, true, rfl, by omega, by go_num, rfl, by show _ = _; rw [HDN.out, ← Bool.or_assoc, ← HB2.out]; rfl, HU6.out⟩
     | false =>
      go_wp2_with fail
      go_roundg (n - (i + 1))
      case measure => rw [Hgi.out]; omega
      case rel => exact ⟨i + 1, D, rfl, by omega, by go_num, rfl, by show _ = _; rw [HDN.out, ← Bool.or_assoc, ← HB2.out]; rfl, HU6.out⟩
    ·
     obtain rfl : n = i := by omega
     have HF : Hid (B2 = bothF (p.take (j + 1)) q) := by
      show _ = _;rw [HTK.out, bothF_snoc, ← HB.out, HB2.out, List.take_of_length_le (by rw [Hn.out]; exact Nat.le_refl _)]
     go_wp2_with fail
     go_roundg (m - (j + 1))
     case measure => rw [Hg.out]; omega
     case rel => exact ⟨j + 1, B2, rfl, by omega, by go_num, rfl, HF, HU5.out.then_non HUI.out⟩
  ·
   obtain rfl : m = j := by omega
   have HBB : Hid (B = bothF p q) := by
    show _ = _;rw [HB.out, List.take_of_length_le (by rw [Hm.out]; exact Nat.le_refl _)]
   have HKX : Hid (kx (ps ++ pt) = printF p ++ printF q) := by
    show _ = _;rw [← Hps.out, ← Hpt.out, kstr_app, kx_kstr]
   have HZ1 : Hid (ps.size = (printF p).length) := by show _ = _; rw [← Hps.out, kstr_size]
   have HZ2 : Hid (pt.size = (printF q).length) := by show _ = _; rw [← Hpt.out, kstr_size]
   have CP := Lib.hid (rParse_all (ps ++ pt) wr);rw [HKX.out] at CP;obtain ⟨res, Hres⟩ := nm (parseF (printF p ++ printF q));rw [Hres.out] at CP
   have g1 : ¬ 9223372036854775807 < ps.size + pt.size := by omega
   have HVP := Lib.hid (HV1.out.upd HU.out (fun _ _ _ f => f));have HVQ := Lib.hid (HV2.out.upd HU.out (fun _ _ _ f => f));have HUW := Lib.hid (HU4.out.then_non HU.out);clear HV1 HV2 HU HU4
   go_wp2_with fail
   refine CP.out.mono ?_;rintro e w6 ⟨u6, h⟩;clear CP g1
   cases B with
   | true =>
    obtain ⟨k, hk, hk1, hk2⟩ := kr_dup HP.out HQ.out (bothF_t HBB.out.symm);rw [Hres.out] at hk
    rcases h with ⟨er, h, rfl⟩ | ⟨Q', A3, c3, h, -⟩
    case inr => rw [hk] at h; cases h
    rw [hk] at h
    injection h with h
    subst h;obtain ⟨W7, HW7⟩ := nm (w6.alloc (.cells #[.int .i64 4, .int .i64 (k : Int)] 31))
    have u7 : Upd Non w6 W7 := by rw [← HW7.out]; exact Upd.refl.alloc _
    have b7 : Blk W7 w6.heap.size 31 #[.int .i64 4, .int .i64 (k : Int)] := by rw [← HW7.out]; exact Blk.new _ _ _
    have y0 := b7.cell 0;have y1 := b7.cell 1;have t1 : decide (ps.size ≤ k) = true := decide_eq_true (by rw [HZ1.out]; exact hk1);have t2 : decide (k < ps.size + pt.size) = true := decide_eq_true (by rw [HZ1.out, HZ2.out]; exact hk2);have t3 : decide ((ps.size : Int) ≤ (k : Int)) = true := decide_eq_true (by rw [HZ1.out]; omega)
    have t4 : decide ((k : Int) < (ps.size : Int) + (pt.size : Int)) = true := decide_eq_true (by rw [HZ1.out, HZ2.out]; omega);have HU7 := Lib.hid ((HUW.out.then_non u6).then_non u7);clear u6 u7 b7 hk hk1 hk2
    go_upto_region 14 with fail
    rw [HW7.out]
    go_wp2_with fail
    refine (CE.out _).mono ?_;rintro e w10 ⟨rfl, u10⟩
    go_wp2_with fail
    go_ret;exact ⟨rfl, HU7.out.then_non u10⟩
   | false =>
    have hk := kr_two HP.out HQ.out (bothF_f HBB.out.symm);rw [Hres.out] at hk
    rcases h with ⟨er, h, -⟩ | ⟨Q', A3, c3, h, rfl, hv6, hc6⟩
    ·
     rw [hk] at h; cases h
    rw [hk] at h
    injection h with h
    subst h
    have HLN : Hid ((p ++ q).length = m + n) := by show _ = _; rw [List.length_append, Hm.out, Hn.out]
    rw [HLN.out] at hc6 ⊢;obtain ⟨W7, HW7⟩ := nm (w6.alloc (.cells #[.int .i64 0, .int .i64 0] 31))
    have u7 : Upd Non w6 W7 := by rw [← HW7.out]; exact Upd.refl.alloc _
    have b7 : Blk W7 w6.heap.size 31 #[.int .i64 0, .int .i64 0] := by rw [← HW7.out]; exact Blk.new _ _ _
    have y0 := b7.cell 0;have y1 := b7.cell 1;have HVP7 := Lib.hid (HVP.out.upd (u6.then_non u7) (fun _ _ _ f => f));have HVQ7 := Lib.hid (HVQ.out.upd (u6.then_non u7) (fun _ _ _ f => f));have HVL7 := Lib.hid (hv6.upd u7 (fun _ _ _ f => f));have HU7 := Lib.hid ((HUW.out.then_non u6).then_non u7);clear u6 u7 b7 hk hv6;obtain ⟨csp, sp1, sp2, sp3⟩ := HVP7.out.cells
    obtain ⟨csq, sq1, sq2, sq3⟩ := HVQ7.out.cells;have HP3 := Lib.hid sp3;have HQ3 := Lib.hid sq3
    have HOW : Hid (Own (W7.alloc (.cells #[] 43)) 43 14 (some ⟨W7.heap.size, 0, none⟩) 0 0 []) := Own.mk_ (Blk.new _ _ _) (Nat.le_refl _) (Nat.zero_le _) rfl rfl
    have uA : Upd Non W7 (W7.alloc (.cells #[] 43)) := Upd.refl.alloc _
    have HLP : Hid (csp.length = m * 14) := by show _ = _; rw [sp2.1, Hm.out]; omega
    have HLQ : Hid (csq.length = n * 14) := by show _ = _; rw [sq2.1, Hn.out]; omega
    have HSP := Lib.hid (sp1.upd uA (fun _ _ _ f => f));have HSQ := Lib.hid sq1
    have HCS := Lib.hid ((sp2.mono (K' := fun _ => True) (Upd.refl (S := Non)) (fun _ _ _ f => f) (fun k _ h => trivial)).append (sq2.mono (K' := fun _ => True) (Upd.refl (S := Non)) (fun _ _ _ f => f) (fun k _ h => trivial)))
    have HUA := Lib.hid uA;clear sp1 sq1 sp2 sq2 sp3 sq3 uA
    go_upto_region 16 with fail
    rw [HW7.out]
    go_wp2_with (at_builtin; refine wpListW_app (by rfl) rfl T_rules rfl HOW.out rfl HSP.out HLP.out HP3.out (by simp only [maxLen]; omega) (by omega) ?_)
    intro A8 c8 w8 ho8 hu8 hat8;have HO8 := Lib.hid ho8
    have HU8 : Hid (Upd (fun k => W7.heap.size ≤ k) W7 w8) := ((HUA.out.mono (fun _ _ f => f.elim)).trans hu8 (fun k hk h => by
     rw [At.some_] at h; omega))
    have HA8 : Hid (∀ k, At A8 k → W7.heap.size ≤ k) := fun k h => by
     rcases hat8 k h with h | h
     ·
      rw [At.some_] at h; omega
     ·
      omega
    have HSQ8 := Lib.hid (HSQ.out.upd HU8.out (fun k hk _ h => by omega));clear ho8 hu8 hat8
    go_wp2_with (at_builtin; refine wpListW_app (by rfl) rfl T_rules rfl HO8.out rfl HSQ8.out HLQ.out HQ3.out (by simp only [maxLen]; omega) (by omega) ?_)
    intro A9 c9 w9 ho9 hu9 hat9;have HU9 : Hid (Upd (fun k => W7.heap.size ≤ k) W7 w9) := HU8.out.trans hu9 (fun k hk h => HA8.out k h)
    have HA9 : Hid (∀ k, At A9 k → W7.heap.size ≤ k) := fun k h => by
     rcases hat9 k h with h | h
     ·
      exact HA8.out k h
     ·
      have := HU8.out.size; omega
    have HV9 := Lib.hid (rls_laid ho9 HLN.out.symm HCS.out HU9.out (fun k h => h) HA9.out);have HL9 := Lib.hid (HVL7.out.upd (S := fun k => W7.heap.size ≤ k) HU9.out (fun k hk _ h => by omega))
    have CSR := Lib.hid (sameRules_c (p ++ q) (p ++ q) w9 _ _ A3 A9 c3 c9 HL9.out HV9.out (fun r hr => by
     rcases List.mem_append.1 hr with hr | hr
     ·
      exact (HPK.out r hr).sz
     ·
      exact (HQK.out r hr).sz) (by rw [HLN.out]; omega))
    rw [rlsE_refl, HLN.out] at CSR;clear ho9 hu9 hat9
    go_wp2_with fail
    refine CSR.out.mono ?_;rintro e w10 ⟨rfl, u10⟩
    go_wp2_with fail
    refine (CE.out _).mono ?_;rintro e w11 ⟨rfl, u11⟩
    go_wp2_with fail
    go_ret;refine ⟨rfl, ?_⟩;have hs7 : w.heap.size ≤ W7.heap.size := HU7.out.size;exact ((HU7.out.trans HU9.out (fun k hk h => by omega)).then_non u10).then_non u11
end Go.Proofs.YtblkgjdhaibhgaaGreat
