/-
  Lemmas and walks that the claim rests on, part 9 (packed by a program).
-/
import Derived.Test.YtblkgjdhaibhgaaV8
import Derived.Test.YtblkgjdhaibhgaaV5
import Derived.Test.YtblkgjdhaibhgaaV1
import Derived.Test.YtblkgjdhaibhgaaRows
import Derived.ProofKit
import Derived.OpenShut
import Derived.SizedLaws
namespace Go.Proofs.Ytblkgjdhaibhgaa
open Go.RowKit
set_option maxRecDepth 100000 in
set_option maxHeartbeats 2000000 in
theorem rEqual_c (r : Rl) (a : RlA) (s : Rl) (e : RlA) (w : World) (F G : Nat → Prop) (hr : RlK w F r a) (hs : RlK w G s e) (hz : RlSz r) :
  Calls Try.prog 15 #[rlv r a, rlv s e] w fun en w' => en = .returned (.bool (rlE r s)) ∧ Upd Non w w' := by
 have HE : Hid (rlE r s = (decide (r.vars = s.vars ∧ r.imms = s.imms ∧ r.conds.length = s.conds.length) && ptE r.l s.l && ptE r.r s.r && decide (r.conds = s.conds))) := rfl
 obtain ⟨res, Hres⟩ := nm (rlE r s)
 rw [Hres.out] at HE ⊢
 obtain ⟨W1, HW1⟩ := nm (w.alloc (.cells (rlCells r a) 33))
 have u1 : Upd Non w W1 := by rw [← HW1.out]; exact Upd.refl.alloc _
 have b1 : Blk W1 w.heap.size 33 (rlCells r a) := by rw [← HW1.out]; exact Blk.new _ _ _
 have s1 : W1.heap.size = w.heap.size + 1 := by rw [← HW1.out]; simp
 obtain ⟨W2, HW2⟩ := nm (W1.alloc (.cells (rlCells s e) 33))
 have u2 : Upd Non W1 W2 := by rw [← HW2.out]; exact Upd.refl.alloc _
 have b2 : Blk W2 (w.heap.size + 1) 33 (rlCells s e) := by rw [← HW2.out, ← s1]; exact Blk.new _ _ _
 have b1 := b1.upd u2 (fun f => f)
 have U2 := u1.then_non u2
 have e1 := HW1.out
 have e2 := HW2.out
 have HU := Lib.hid U2
 have HKR := Lib.hid (hr.upd U2 (fun _ _ _ f => f))
 have HKS := Lib.hid (hs.upd U2 (fun _ _ _ f => f))
 have HB1 := Lib.hid b1
 have HB2 := Lib.hid b2
 have hb1 := b1
 have hb2 := b2
 unfold rlCells at hb1 hb2 e1 e2
 have c1 := hb1.cell 1
 have c2 := hb1.cell 2
 have c3 := hb1.cell 3
 have c4 := hb1.cell 4
 have c5 := hb1.cell 5
 have c6 := hb1.cell 6
 have c7 := hb1.cell 7
 have c8 := hb1.cell 8
 have c9 := hb1.cell 9
 have c10 := hb1.cell 10
 have c11 := hb1.cell 11
 have c12 := hb1.cell 12
 have c13 := hb1.cell 13
 have d1 := hb2.cell 1
 have d2 := hb2.cell 2
 have d3 := hb2.cell 3
 have d4 := hb2.cell 4
 have d5 := hb2.cell 5
 have d6 := hb2.cell 6
 have d7 := hb2.cell 7
 have d8 := hb2.cell 8
 have d9 := hb2.cell 9
 have d10 := hb2.cell 10
 have d11 := hb2.cell 11
 have d12 := hb2.cell 12
 have d13 := hb2.cell 13
 have CL := Lib.hid (fun W (u : Upd Non W2 W) => rEqualPats_c r.l s.l W F G a.la e.la a.lc e.lc (PtK.upd u (fun _ _ _ f => f) _ _ _ HKR.out.l) (PtK.upd u (fun _ _ _ f => f) _ _ _ HKS.out.l) hz.l)
 have CR := Lib.hid (fun W (u : Upd Non W2 W) => rEqualPats_c r.r s.r W F G a.ra e.ra a.rc e.rc (PtK.upd u (fun _ _ _ f => f) _ _ _ HKR.out.r) (PtK.upd u (fun _ _ _ f => f) _ _ _ HKS.out.r) hz.r)
 unfold pv at CL CR
 unfold rlv rlCells
 have hcz := hz.c
 obtain ⟨pn, Hpn⟩ := nm r.conds.length
 obtain ⟨qn, Hqn⟩ := nm s.conds.length
 rw [Hpn.out] at c11 e1 HE hcz
 rw [Hqn.out] at d11 e2 HE
 rw [Hpn.out, Hqn.out]
 obtain ⟨B1, HB1_⟩ := nm (ptE r.l s.l)
 obtain ⟨B2, HB2_⟩ := nm (ptE r.r s.r)
 rw [HB1_.out] at CL HE
 rw [HB2_.out] at CR HE
 clear hr hs u1 u2 b1 b2 U2 HW1 HW2 hb1 hb2 hz
 by_cases h1 : r.vars = s.vars
 ·
  by_cases h2 : r.imms = s.imms
  ·
   by_cases h3 : pn = qn
   ·
    have t1 : (r.vars != s.vars) = false := by simpa using h1
    have t2 : (r.imms != s.imms) = false := by simpa using h2
    have t3 : ((pn : Int) != (qn : Int)) = false := by simp [h3]
    rw [decide_eq_true ⟨h1, h2, h3⟩, Bool.true_and] at HE
    clear h1 h2
    subst h3
    obtain ⟨n, rfl⟩ : ∃ m, m = pn := ⟨_, rfl⟩
    go_enter Try.func15, Try.ntmps15
    go_wp2_with fail
    refine (CL.out _ Upd.refl).mono ?_
    rintro en w3 ⟨rfl, u3⟩
    clear CL e1 e2
    cases B1 with
    | false =>
     have HF : Hid (res = false) := by show _ = _; rw [HE.out]; rfl
     go_wp2_with fail
     go_ret
     exact ⟨by rw [HF.out]; rfl, HU.out.then_non u3⟩
    | true =>
     have c6 := cell_upd c6 u3 (fun f => f)
     have c7 := cell_upd c7 u3 (fun f => f)
     have c8 := cell_upd c8 u3 (fun f => f)
     have c9 := cell_upd c9 u3 (fun f => f)
     have c10 := cell_upd c10 u3 (fun f => f)
     have c11 := cell_upd c11 u3 (fun f => f)
     have d6 := cell_upd d6 u3 (fun f => f)
     have d7 := cell_upd d7 u3 (fun f => f)
     have d8 := cell_upd d8 u3 (fun f => f)
     have d9 := cell_upd d9 u3 (fun f => f)
     have d10 := cell_upd d10 u3 (fun f => f)
     have d11 := cell_upd d11 u3 (fun f => f)
     go_wp2_with fail
     refine (CR.out _ u3).mono ?_
     rintro en w4 ⟨rfl, u4⟩
     clear CR
     have U4 : Upd Non W2 w4 := u3.then_non u4
     cases B2 with
     | false =>
      have HF : Hid (res = false) := by show _ = _; rw [HE.out]; rfl
      go_wp2_with fail
      go_ret
      exact ⟨by rw [HF.out]; rfl, HU.out.then_non U4⟩
     | true =>
      have HD : Hid (res = decide (r.conds = s.conds)) := by show _ = _; rw [HE.out]; rfl
      have c11 := cell_upd c11 u4 (fun f => f)
      have d11 := cell_upd d11 u4 (fun f => f)
      have HU4 := Lib.hid U4
      clear t1 t2 t3 U4 c1 c2 c3 c4 c5 c6 c7 c8 c9 c10 c12 c13 d1 d2 d3 d4 d5 d6 d7 d8 d9 d10 d12 d13
      go_wp2_with fail
      go_loopg [5, 46] n (fun g _ iv wr => ∃ k : Nat, Hid (g = n - k) ∧ k ≤ n ∧ iv = .int .i64 k ∧ Hid (r.conds.take k = s.conds.take k) ∧ Hid (Upd Non w4 wr))
      case atStart => exact ⟨0, rfl, Nat.zero_le _, rfl, by show _ = _; simp, Upd.refl⟩
      case round =>
       obtain ⟨k, Hg, hk, rfl, HA, Hu⟩ := hrel
       have c11 := cell_upd c11 Hu.out (fun f => f)
       have d11 := cell_upd d11 Hu.out (fun f => f)
       have HUW := Lib.hid (HU4.out.then_non Hu.out)
       by_cases hlt : k < n
       ·
        have hkl : k < r.conds.length := by rw [Hpn.out]; exact hlt
        have hkq : k < s.conds.length := by rw [Hqn.out]; exact hlt
        have hta := (HKR.out.c.upd HUW.out (fun _ _ _ f => f)).take hkl
        have htb := (HKS.out.c.upd HUW.out (fun _ _ _ f => f)).take hkq
        have HNX : Hid (¬ r.conds[k] = s.conds[k] → res = false) := fun h => by
         rw [HD.out]
         refine decide_eq_false (fun q => h ?_)
         simp only [q]
        have HNY : Hid (r.conds[k] = s.conds[k] → r.conds.take (k + 1) = s.conds.take (k + 1)) := fun h => by rw [take_snoc' hkl, take_snoc' hkq, HA.out, h]
        generalize r.conds[k] = x at *
        generalize s.conds[k] = z at *
        obtain ⟨ca, Hca⟩ := nm a.ca
        obtain ⟨ce, Hce⟩ := nm e.ca
        rw [Hca.out] at hta c11
        rw [Hce.out] at htb d11
        obtain ⟨b, o, rfl, hbw, g0, g1, g2, g3⟩ := hta
        obtain ⟨b2, o2, rfl, hbw2, k0, k1, k2, k3⟩ := htb
        go_upto_region 6 with fail
        go_cut [59] (fun s wx => s = .bool (!decide (x = z)) ∧ Upd Non wr wx)
        case first =>
         obtain ⟨wD, HwD⟩ := nm wr.drew
         have uD : Upd Non wr wD := by rw [← HwD.out]; exact Upd.refl.drew
         refine wp_region_held_drew (S := fun w' => w'.cell? ⟨w.heap.size, 11, none⟩ = some (.slice (some ⟨b, o, none⟩) n a.cc) ∧ w'.cell? ⟨w.heap.size + 1, 11, none⟩ = some (.slice (some ⟨b2, o2, none⟩) n e.cc) ∧ w'.cell? ⟨b, o + k * 4, none⟩ = some (.int .i64 x.kind) ∧ w'.cell? ⟨b, o + k * 4 + 1, none⟩ = some (.int .i64 x.a) ∧ w'.cell? ⟨b, o + k * 4 + 2, none⟩ = some (.int .i64 x.b) ∧ w'.cell? ⟨b, o + k * 4 + 3, none⟩ = some (.int .i64 x.n) ∧ w'.cell? ⟨b2, o2 + k * 4, none⟩ = some (.int .i64 z.kind) ∧ w'.cell? ⟨b2, o2 + k * 4 + 1, none⟩ = some (.int .i64 z.a) ∧ w'.cell? ⟨b2, o2 + k * 4 + 2, none⟩ = some (.int .i64 z.b) ∧ w'.cell? ⟨b2, o2 + k * 4 + 3, none⟩ = some (.int .i64 z.n)) (by kernel_rfl) (by rw [HwD.out]; exact ⟨cell_upd c11 uD (fun f => f), cell_upd d11 uD (fun f => f), cell_upd g0 uD (fun f => f), cell_upd g1 uD (fun f => f), cell_upd g2 uD (fun f => f), cell_upd g3 uD (fun f => f), cell_upd k0 uD (fun f => f), cell_upd k1 uD (fun f => f), cell_upd k2 uD (fun f => f), cell_upd k3 uD (fun f => f)⟩) (fun hHeld => ?_)
         rw [HwD.out] at hHeld ⊢
         have HXZ : Hid (x = z ↔ x.kind = z.kind ∧ x.a = z.a ∧ x.b = z.b ∧ x.n = z.n) := by
          show _ ↔ _
          cases x; cases z; simp
         by_cases q0 : x.kind = z.kind
         ·
          by_cases q1 : x.a = z.a
          ·
           by_cases q2 : x.b = z.b
           ·
            by_cases q3 : x.n = z.n
            ·
             have HDC : Hid (decide (x = z) = true) := decide_eq_true (HXZ.out.2 ⟨q0, q1, q2, q3⟩)
             refine wpT 0 ?_
             try simp only [put_y]
             try simp only [Act.put]
             try simp only [put_z]
             refine wpT 1 ?_
             try simp only [put_y]
             try simp only [Act.put]
             try simp only [put_z]
             refine wpT 2 ?_
             try simp only [put_y]
             try simp only [Act.put]
             try simp only [put_z]
             refine wpT 3 ?_
             try simp only [put_y]
             try simp only [Act.put]
             try simp only [put_z]
             refine wpT 4 ?_
             try simp only [put_y]
             try simp only [Act.put]
             try simp only [put_z]
             refine wpT 5 ?_
             try simp only [put_y]
             try simp only [Act.put]
             try simp only [put_z]
             refine wpT 6 ?_
             try simp only [put_y]
             try simp only [Act.put]
             try simp only [put_z]
             refine wpT 7 ?_
             try simp only [put_y]
             try simp only [Act.put]
             try simp only [put_z]
             refine wpT 8 ?_
             try simp only [put_y]
             try simp only [Act.put]
             try simp only [put_z]
             refine wpT 9 ?_
             try simp only [put_y]
             try simp only [Act.put]
             try simp only [put_z]
             refine wpT 10 ?_
             try simp only [put_y]
             try simp only [Act.put]
             try simp only [put_z]
             refine wpAnyH_done (by kernel_rfl) ?_ _
             go_wp2_with fail
             go_meet
             case rel => exact ⟨by rw [HDC.out]; rfl, uD⟩
            ·
             have HDC : Hid (decide (x = z) = false) := decide_eq_false (fun h => q3 (HXZ.out.1 h).2.2.2)
             refine wpT 0 ?_
             try simp only [put_y]
             try simp only [Act.put]
             try simp only [put_z]
             refine wpT 1 ?_
             try simp only [put_y]
             try simp only [Act.put]
             try simp only [put_z]
             refine wpT 2 ?_
             try simp only [put_y]
             try simp only [Act.put]
             try simp only [put_z]
             refine wpT 3 ?_
             try simp only [put_y]
             try simp only [Act.put]
             try simp only [put_z]
             refine wpT 4 ?_
             try simp only [put_y]
             try simp only [Act.put]
             try simp only [put_z]
             refine wpT 5 ?_
             try simp only [put_y]
             try simp only [Act.put]
             try simp only [put_z]
             refine wpT 6 ?_
             try simp only [put_y]
             try simp only [Act.put]
             try simp only [put_z]
             refine wpT 7 ?_
             try simp only [put_y]
             try simp only [Act.put]
             try simp only [put_z]
             refine wpT 8 ?_
             try simp only [put_y]
             try simp only [Act.put]
             try simp only [put_z]
             refine wpT 9 ?_
             try simp only [put_y]
             try simp only [Act.put]
             try simp only [put_z]
             refine wpT 10 ?_
             try simp only [put_y]
             try simp only [Act.put]
             try simp only [put_z]
             refine wpAnyH_done (by kernel_rfl) ?_ _
             go_wp2_with fail
             go_meet
             case rel => exact ⟨by rw [HDC.out]; rfl, uD⟩
           ·
            have HDC : Hid (decide (x = z) = false) := decide_eq_false (fun h => q2 (HXZ.out.1 h).2.2.1)
            refine wpT 0 ?_
            try simp only [put_y]
            try simp only [Act.put]
            try simp only [put_z]
            refine wpT 1 ?_
            try simp only [put_y]
            try simp only [Act.put]
            try simp only [put_z]
            refine wpT 2 ?_
            try simp only [put_y]
            try simp only [Act.put]
            try simp only [put_z]
            refine wpT 3 ?_
            try simp only [put_y]
            try simp only [Act.put]
            try simp only [put_z]
            refine wpT 4 ?_
            try simp only [put_y]
            try simp only [Act.put]
            try simp only [put_z]
            refine wpT 5 ?_
            try simp only [put_y]
            try simp only [Act.put]
            try simp only [put_z]
            refine wpT 6 ?_
            try simp only [put_y]
            try simp only [Act.put]
            try simp only [put_z]
            refine wpT 7 ?_
            try simp only [put_y]
            try simp only [Act.put]
            try simp only [put_z]
            refine wpT 8 ?_
            try simp only [put_y]
            try simp only [Act.put]
            try simp only [put_z]
            refine wpT 9 ?_
            try simp only [put_y]
            try simp only [Act.put]
            try simp only [put_z]
            refine wpT 10 ?_
            try simp only [put_y]
            try simp only [Act.put]
            try simp only [put_z]
            refine wpAnyH_done (by kernel_rfl) ?_ _
            go_wp2_with fail
            go_meet
            case rel => exact ⟨by rw [HDC.out]; rfl, uD⟩
          ·
           have HDC : Hid (decide (x = z) = false) := decide_eq_false (fun h => q1 (HXZ.out.1 h).2.1)
           refine wpT 0 ?_
           try simp only [put_y]
           try simp only [Act.put]
           try simp only [put_z]
           refine wpT 1 ?_
           try simp only [put_y]
           try simp only [Act.put]
           try simp only [put_z]
           refine wpT 2 ?_
           try simp only [put_y]
           try simp only [Act.put]
           try simp only [put_z]
           refine wpT 3 ?_
           try simp only [put_y]
           try simp only [Act.put]
           try simp only [put_z]
           refine wpT 4 ?_
           try simp only [put_y]
           try simp only [Act.put]
           try simp only [put_z]
           refine wpT 5 ?_
           try simp only [put_y]
           try simp only [Act.put]
           try simp only [put_z]
           refine wpT 6 ?_
           try simp only [put_y]
           try simp only [Act.put]
           try simp only [put_z]
           refine wpT 7 ?_
           try simp only [put_y]
           try simp only [Act.put]
           try simp only [put_z]
           refine wpT 8 ?_
           try simp only [put_y]
           try simp only [Act.put]
           try simp only [put_z]
           refine wpT 9 ?_
           try simp only [put_y]
           try simp only [Act.put]
           try simp only [put_z]
           refine wpT 10 ?_
           try simp only [put_y]
           try simp only [Act.put]
           try simp only [put_z]
           refine wpAnyH_done (by kernel_rfl) ?_ _
           go_wp2_with fail
           go_meet
           case rel => exact ⟨by rw [HDC.out]; rfl, uD⟩
         ·
          have HDC : Hid (decide (x = z) = false) := decide_eq_false (fun h => q0 (HXZ.out.1 h).1)
          refine wpT 0 ?_
          try simp only [put_y]
          try simp only [Act.put]
          try simp only [put_z]
          refine wpT 1 ?_
          try simp only [put_y]
          try simp only [Act.put]
          try simp only [put_z]
          refine wpT 2 ?_
          try simp only [put_y]
          try simp only [Act.put]
          try simp only [put_z]
          refine wpT 3 ?_
          try simp only [put_y]
          try simp only [Act.put]
          try simp only [put_z]
          refine wpT 4 ?_
          try simp only [put_y]
          try simp only [Act.put]
          try simp only [put_z]
          refine wpT 5 ?_
          try simp only [put_y]
          try simp only [Act.put]
          try simp only [put_z]
          refine wpT 6 ?_
          try simp only [put_y]
          try simp only [Act.put]
          try simp only [put_z]
          refine wpT 7 ?_
          try simp only [put_y]
          try simp only [Act.put]
          try simp only [put_z]
          refine wpT 8 ?_
          try simp only [put_y]
          try simp only [Act.put]
          try simp only [put_z]
          refine wpT 9 ?_
          try simp only [put_y]
          try simp only [Act.put]
          try simp only [put_z]
          refine wpT 10 ?_
          try simp only [put_y]
          try simp only [Act.put]
          try simp only [put_z]
          refine wpAnyH_done (by kernel_rfl) ?_ _
          go_wp2_with fail
          go_meet
          case rel => exact ⟨by rw [HDC.out]; rfl, uD⟩
        case rest =>
         obtain ⟨rfl, hwc⟩ := hcut
         have HUC := Lib.hid (Hu.out.then_non hwc)
         have c11 := cell_upd c11 hwc (fun f => f)
         clear g0 g1 g2 g3 k0 k1 k2 k3 hwc
         obtain ⟨B, HB⟩ := nm (decide (x = z))
         rw [HB.out]
         cases B with
         | false =>
          have HF : Hid (res = false) := HNX.out (of_decide_eq_false HB.out)
          go_wp2_with fail
          go_ret
          exact ⟨by rw [HF.out]; rfl, (HU.out.then_non HU4.out).then_non HUC.out⟩
         | true =>
          have HA2 := Lib.hid (HNY.out (of_decide_eq_true HB.out))
          go_wp2_with fail
          go_roundg (n - (k + 1))
          case measure => rw [Hg.out]; omega
          case rel => exact ⟨k + 1, rfl, by omega, by go_num, HA2, HUC⟩
       ·
        obtain rfl : n = k := by omega
        have HT : Hid (res = true) := by
         show _ = _
         rw [HD.out]
         have h := HA.out
         rw [← Hpn.out, List.take_length, Hpn.out, ← Hqn.out, List.take_length] at h
         exact decide_eq_true h
        go_wp2_with fail
        go_ret
        exact ⟨by rw [HT.out]; rfl, (HU.out.then_non HU4.out).then_non Hu.out⟩
   ·
    have t1 : (r.vars != s.vars) = false := by simpa using h1
    have t2 : (r.imms != s.imms) = false := by simpa using h2
    have t3 : ((pn : Int) != (qn : Int)) = true := by simpa using fun e => h3 (by omega)
    have HR : Hid (res = false) := by show _ = _; rw [HE.out, decide_eq_false (fun h => h3 h.2.2)]; rfl
    clear h1 h2 h3
    go_enter Try.func15, Try.ntmps15
    go_wp2_with fail
    go_ret
    exact ⟨by rw [HR.out]; rfl, HU.out⟩
  ·
   have t1 : (r.vars != s.vars) = false := by simpa using h1
   have t2 : (r.imms != s.imms) = true := by simpa using h2
   have HR : Hid (res = false) := by show _ = _; rw [HE.out, decide_eq_false (fun h => h2 h.2.1)]; rfl
   clear h1 h2
   go_enter Try.func15, Try.ntmps15
   go_wp2_with fail
   go_ret
   exact ⟨by rw [HR.out]; rfl, HU.out⟩
 ·
  have t1 : (r.vars != s.vars) = true := by simpa using h1
  have HR : Hid (res = false) := by show _ = _; rw [HE.out, decide_eq_false (fun h => h1 h.1)]; rfl
  clear h1
  go_enter Try.func15, Try.ntmps15
  go_wp2_with fail
  go_ret
  exact ⟨by rw [HR.out]; rfl, HU.out⟩
set_option maxRecDepth 100000 in
set_option maxHeartbeats 2000000 in
theorem sameRule_c (r : Rl) (a : RlA) (s : Rl) (e : RlA) (w : World) (F G : Nat → Prop) (hr : RlK w F r a) (hs : RlK w G s e) (hz : RlSz r) :
  Calls Try.prog 34 #[rlv r a, rlv s e] w fun en w' => en = .returned (.bool (rlE r s)) ∧ Upd Non w w' := by
 have HE : Hid (rlE r s = (decide (r.vars = s.vars ∧ r.imms = s.imms ∧ r.conds.length = s.conds.length) && ptE r.l s.l && ptE r.r s.r && decide (r.conds = s.conds))) := rfl
 obtain ⟨res, Hres⟩ := nm (rlE r s)
 rw [Hres.out] at HE ⊢
 obtain ⟨W1, HW1⟩ := nm (w.alloc (.cells (rlCells r a) 33))
 have u1 : Upd Non w W1 := by rw [← HW1.out]; exact Upd.refl.alloc _
 have b1 : Blk W1 w.heap.size 33 (rlCells r a) := by rw [← HW1.out]; exact Blk.new _ _ _
 have s1 : W1.heap.size = w.heap.size + 1 := by rw [← HW1.out]; simp
 obtain ⟨W2, HW2⟩ := nm (W1.alloc (.cells (rlCells s e) 33))
 have u2 : Upd Non W1 W2 := by rw [← HW2.out]; exact Upd.refl.alloc _
 have b2 : Blk W2 (w.heap.size + 1) 33 (rlCells s e) := by rw [← HW2.out, ← s1]; exact Blk.new _ _ _
 have b1 := b1.upd u2 (fun f => f)
 have U2 := u1.then_non u2
 have e1 := HW1.out
 have e2 := HW2.out
 have HU := Lib.hid U2
 have HKR := Lib.hid (hr.upd U2 (fun _ _ _ f => f))
 have HKS := Lib.hid (hs.upd U2 (fun _ _ _ f => f))
 have HB1 := Lib.hid b1
 have HB2 := Lib.hid b2
 have hb1 := b1
 have hb2 := b2
 unfold rlCells at hb1 hb2 e1 e2
 have c1 := hb1.cell 1
 have c2 := hb1.cell 2
 have c3 := hb1.cell 3
 have c4 := hb1.cell 4
 have c5 := hb1.cell 5
 have c6 := hb1.cell 6
 have c7 := hb1.cell 7
 have c8 := hb1.cell 8
 have c9 := hb1.cell 9
 have c10 := hb1.cell 10
 have c11 := hb1.cell 11
 have c12 := hb1.cell 12
 have c13 := hb1.cell 13
 have d1 := hb2.cell 1
 have d2 := hb2.cell 2
 have d3 := hb2.cell 3
 have d4 := hb2.cell 4
 have d5 := hb2.cell 5
 have d6 := hb2.cell 6
 have d7 := hb2.cell 7
 have d8 := hb2.cell 8
 have d9 := hb2.cell 9
 have d10 := hb2.cell 10
 have d11 := hb2.cell 11
 have d12 := hb2.cell 12
 have d13 := hb2.cell 13
 have CL := Lib.hid (fun W (u : Upd Non W2 W) => samePattern_c r.l s.l W F G a.la e.la a.lc e.lc (PtK.upd u (fun _ _ _ f => f) _ _ _ HKR.out.l) (PtK.upd u (fun _ _ _ f => f) _ _ _ HKS.out.l) hz.l)
 have CR := Lib.hid (fun W (u : Upd Non W2 W) => samePattern_c r.r s.r W F G a.ra e.ra a.rc e.rc (PtK.upd u (fun _ _ _ f => f) _ _ _ HKR.out.r) (PtK.upd u (fun _ _ _ f => f) _ _ _ HKS.out.r) hz.r)
 unfold pv at CL CR
 unfold rlv rlCells
 have hcz := hz.c
 obtain ⟨pn, Hpn⟩ := nm r.conds.length
 obtain ⟨qn, Hqn⟩ := nm s.conds.length
 rw [Hpn.out] at c11 e1 HE hcz
 rw [Hqn.out] at d11 e2 HE
 rw [Hpn.out, Hqn.out]
 obtain ⟨B1, HB1_⟩ := nm (ptE r.l s.l)
 obtain ⟨B2, HB2_⟩ := nm (ptE r.r s.r)
 rw [HB1_.out] at CL HE
 rw [HB2_.out] at CR HE
 clear hr hs u1 u2 b1 b2 U2 HW1 HW2 hb1 hb2 hz
 by_cases h1 : r.vars = s.vars
 ·
  by_cases h2 : r.imms = s.imms
  ·
   by_cases h3 : pn = qn
   ·
    have t1 : (r.vars != s.vars) = false := by simpa using h1
    have t2 : (r.imms != s.imms) = false := by simpa using h2
    have t3 : ((pn : Int) != (qn : Int)) = false := by simp [h3]
    rw [decide_eq_true ⟨h1, h2, h3⟩, Bool.true_and] at HE
    clear h1 h2
    subst h3
    obtain ⟨n, rfl⟩ : ∃ m, m = pn := ⟨_, rfl⟩
    go_enter Try.func34, Try.ntmps34
    go_wp2_with fail
    refine (CL.out _ Upd.refl).mono ?_
    rintro en w3 ⟨rfl, u3⟩
    clear CL e1 e2
    cases B1 with
    | false =>
     have HF : Hid (res = false) := by show _ = _; rw [HE.out]; rfl
     go_wp2_with fail
     go_ret
     exact ⟨by rw [HF.out]; rfl, HU.out.then_non u3⟩
    | true =>
     have c6 := cell_upd c6 u3 (fun f => f)
     have c7 := cell_upd c7 u3 (fun f => f)
     have c8 := cell_upd c8 u3 (fun f => f)
     have c9 := cell_upd c9 u3 (fun f => f)
     have c10 := cell_upd c10 u3 (fun f => f)
     have c11 := cell_upd c11 u3 (fun f => f)
     have d6 := cell_upd d6 u3 (fun f => f)
     have d7 := cell_upd d7 u3 (fun f => f)
     have d8 := cell_upd d8 u3 (fun f => f)
     have d9 := cell_upd d9 u3 (fun f => f)
     have d10 := cell_upd d10 u3 (fun f => f)
     have d11 := cell_upd d11 u3 (fun f => f)
     go_wp2_with fail
     refine (CR.out _ u3).mono ?_
     rintro en w4 ⟨rfl, u4⟩
     clear CR
     have U4 : Upd Non W2 w4 := u3.then_non u4
     cases B2 with
     | false =>
      have HF : Hid (res = false) := by show _ = _; rw [HE.out]; rfl
      go_wp2_with fail
      go_ret
      exact ⟨by rw [HF.out]; rfl, HU.out.then_non U4⟩
     | true =>
      have HD : Hid (res = decide (r.conds = s.conds)) := by show _ = _; rw [HE.out]; rfl
      have c11 := cell_upd c11 u4 (fun f => f)
      have d11 := cell_upd d11 u4 (fun f => f)
      have HU4 := Lib.hid U4
      clear t1 t2 t3 U4 c1 c2 c3 c4 c5 c6 c7 c8 c9 c10 c12 c13 d1 d2 d3 d4 d5 d6 d7 d8 d9 d10 d12 d13
      go_wp2_with fail
      go_loopg [5] n (fun g  iv wr => ∃ k : Nat, Hid (g = n - k) ∧ k ≤ n ∧ iv = .int .i64 k ∧ Hid (r.conds.take k = s.conds.take k) ∧ Hid (Upd Non w4 wr))
      case atStart => exact ⟨0, rfl, Nat.zero_le _, rfl, by show _ = _; simp, Upd.refl⟩
      case round =>
       obtain ⟨k, Hg, hk, rfl, HA, Hu⟩ := hrel
       have c11 := cell_upd c11 Hu.out (fun f => f)
       have d11 := cell_upd d11 Hu.out (fun f => f)
       have HUW := Lib.hid (HU4.out.then_non Hu.out)
       by_cases hlt : k < n
       ·
        have hkl : k < r.conds.length := by rw [Hpn.out]; exact hlt
        have hkq : k < s.conds.length := by rw [Hqn.out]; exact hlt
        have hta := (HKR.out.c.upd HUW.out (fun _ _ _ f => f)).take hkl
        have htb := (HKS.out.c.upd HUW.out (fun _ _ _ f => f)).take hkq
        have HNX : Hid (¬ r.conds[k] = s.conds[k] → res = false) := fun h => by
         rw [HD.out]
         refine decide_eq_false (fun q => h ?_)
         simp only [q]
        have HNY : Hid (r.conds[k] = s.conds[k] → r.conds.take (k + 1) = s.conds.take (k + 1)) := fun h => by rw [take_snoc' hkl, take_snoc' hkq, HA.out, h]
        generalize r.conds[k] = x at *
        generalize s.conds[k] = z at *
        obtain ⟨ca, Hca⟩ := nm a.ca
        obtain ⟨ce, Hce⟩ := nm e.ca
        rw [Hca.out] at hta c11
        rw [Hce.out] at htb d11
        obtain ⟨b, o, rfl, hbw, g0, g1, g2, g3⟩ := hta
        obtain ⟨b2, o2, rfl, hbw2, k0, k1, k2, k3⟩ := htb
        go_upto_region 6 with fail
        go_cut [60] (fun s wx => s = .bool (!decide (x = z)) ∧ Upd Non wr wx)
        case first =>
         obtain ⟨wD, HwD⟩ := nm wr.drew
         have uD : Upd Non wr wD := by rw [← HwD.out]; exact Upd.refl.drew
         refine wp_region_held_drew (S := fun w' => w'.cell? ⟨w.heap.size, 11, none⟩ = some (.slice (some ⟨b, o, none⟩) n a.cc) ∧ w'.cell? ⟨w.heap.size + 1, 11, none⟩ = some (.slice (some ⟨b2, o2, none⟩) n e.cc) ∧ w'.cell? ⟨b, o + k * 4, none⟩ = some (.int .i64 x.kind) ∧ w'.cell? ⟨b, o + k * 4 + 1, none⟩ = some (.int .i64 x.a) ∧ w'.cell? ⟨b, o + k * 4 + 2, none⟩ = some (.int .i64 x.b) ∧ w'.cell? ⟨b, o + k * 4 + 3, none⟩ = some (.int .i64 x.n) ∧ w'.cell? ⟨b2, o2 + k * 4, none⟩ = some (.int .i64 z.kind) ∧ w'.cell? ⟨b2, o2 + k * 4 + 1, none⟩ = some (.int .i64 z.a) ∧ w'.cell? ⟨b2, o2 + k * 4 + 2, none⟩ = some (.int .i64 z.b) ∧ w'.cell? ⟨b2, o2 + k * 4 + 3, none⟩ = some (.int .i64 z.n)) (by kernel_rfl) (by rw [HwD.out]; exact ⟨cell_upd c11 uD (fun f => f), cell_upd d11 uD (fun f => f), cell_upd g0 uD (fun f => f), cell_upd g1 uD (fun f => f), cell_upd g2 uD (fun f => f), cell_upd g3 uD (fun f => f), cell_upd k0 uD (fun f => f), cell_upd k1 uD (fun f => f), cell_upd k2 uD (fun f => f), cell_upd k3 uD (fun f => f)⟩) (fun hHeld => ?_)
         rw [HwD.out] at hHeld ⊢
         have HXZ : Hid (x = z ↔ x.kind = z.kind ∧ x.a = z.a ∧ x.b = z.b ∧ x.n = z.n) := by
          show _ ↔ _
          cases x; cases z; simp
         by_cases q0 : x.kind = z.kind
         ·
          by_cases q1 : x.a = z.a
          ·
           by_cases q2 : x.b = z.b
           ·
            by_cases q3 : x.n = z.n
            ·
             have HDC : Hid (decide (x = z) = true) := decide_eq_true (HXZ.out.2 ⟨q0, q1, q2, q3⟩)
             refine wpT 0 ?_
             try simp only [put_y]
             try simp only [Act.put]
             try simp only [put_z]
             refine wpT 1 ?_
             try simp only [put_y]
             try simp only [Act.put]
             try simp only [put_z]
             refine wpT 2 ?_
             try simp only [put_y]
             try simp only [Act.put]
             try simp only [put_z]
             refine wpT 3 ?_
             try simp only [put_y]
             try simp only [Act.put]
             try simp only [put_z]
             refine wpT 4 ?_
             try simp only [put_y]
             try simp only [Act.put]
             try simp only [put_z]
             refine wpT 5 ?_
             try simp only [put_y]
             try simp only [Act.put]
             try simp only [put_z]
             refine wpT 6 ?_
             try simp only [put_y]
             try simp only [Act.put]
             try simp only [put_z]
             refine wpT 7 ?_
             try simp only [put_y]
             try simp only [Act.put]
             try simp only [put_z]
             refine wpT 8 ?_
             try simp only [put_y]
             try simp only [Act.put]
             try simp only [put_z]
             refine wpT 9 ?_
             try simp only [put_y]
             try simp only [Act.put]
             try simp only [put_z]
             refine wpT 10 ?_
             try simp only [put_y]
             try simp only [Act.put]
             try simp only [put_z]
             refine wpAnyH_done (by kernel_rfl) ?_ _
             go_wp2_with fail
             go_meet
             case rel => exact ⟨by rw [HDC.out]; rfl, uD⟩
            ·
             have HDC : Hid (decide (x = z) = false) := decide_eq_false (fun h => q3 (HXZ.out.1 h).2.2.2)
             refine wpT 0 ?_
             try simp only [put_y]
             try simp only [Act.put]
             try simp only [put_z]
             refine wpT 1 ?_
             try simp only [put_y]
             try simp only [Act.put]
             try simp only [put_z]
             refine wpT 2 ?_
             try simp only [put_y]
             try simp only [Act.put]
             try simp only [put_z]
             refine wpT 3 ?_
             try simp only [put_y]
             try simp only [Act.put]
             try simp only [put_z]
             refine wpT 4 ?_
             try simp only [put_y]
             try simp only [Act.put]
             try simp only [put_z]
             refine wpT 5 ?_
             try simp only [put_y]
             try simp only [Act.put]
             try simp only [put_z]
             refine wpT 6 ?_
             try simp only [put_y]
             try simp only [Act.put]
             try simp only [put_z]
             refine wpT 7 ?_
             try simp only [put_y]
             try simp only [Act.put]
             try simp only [put_z]
             refine wpT 8 ?_
             try simp only [put_y]
             try simp only [Act.put]
             try simp only [put_z]
             refine wpT 9 ?_
             try simp only [put_y]
             try simp only [Act.put]
             try simp only [put_z]
             refine wpT 10 ?_
             try simp only [put_y]
             try simp only [Act.put]
             try simp only [put_z]
             refine wpAnyH_done (by kernel_rfl) ?_ _
             go_wp2_with fail
             go_meet
             case rel => exact ⟨by rw [HDC.out]; rfl, uD⟩
           ·
            have HDC : Hid (decide (x = z) = false) := decide_eq_false (fun h => q2 (HXZ.out.1 h).2.2.1)
            refine wpT 0 ?_
            try simp only [put_y]
            try simp only [Act.put]
            try simp only [put_z]
            refine wpT 1 ?_
            try simp only [put_y]
            try simp only [Act.put]
            try simp only [put_z]
            refine wpT 2 ?_
            try simp only [put_y]
            try simp only [Act.put]
            try simp only [put_z]
            refine wpT 3 ?_
            try simp only [put_y]
            try simp only [Act.put]
            try simp only [put_z]
            refine wpT 4 ?_
            try simp only [put_y]
            try simp only [Act.put]
            try simp only [put_z]
            refine wpT 5 ?_
            try simp only [put_y]
            try simp only [Act.put]
            try simp only [put_z]
            refine wpT 6 ?_
            try simp only [put_y]
            try simp only [Act.put]
            try simp only [put_z]
            refine wpT 7 ?_
            try simp only [put_y]
            try simp only [Act.put]
            try simp only [put_z]
            refine wpT 8 ?_
            try simp only [put_y]
            try simp only [Act.put]
            try simp only [put_z]
            refine wpT 9 ?_
            try simp only [put_y]
            try simp only [Act.put]
            try simp only [put_z]
            refine wpT 10 ?_
            try simp only [put_y]
            try simp only [Act.put]
            try simp only [put_z]
            refine wpAnyH_done (by kernel_rfl) ?_ _
            go_wp2_with fail
            go_meet
            case rel => exact ⟨by rw [HDC.out]; rfl, uD⟩
          ·
           have HDC : Hid (decide (x = z) = false) := decide_eq_false (fun h => q1 (HXZ.out.1 h).2.1)
           refine wpT 0 ?_
           try simp only [put_y]
           try simp only [Act.put]
           try simp only [put_z]
           refine wpT 1 ?_
           try simp only [put_y]
           try simp only [Act.put]
           try simp only [put_z]
           refine wpT 2 ?_
           try simp only [put_y]
           try simp only [Act.put]
           try simp only [put_z]
           refine wpT 3 ?_
           try simp only [put_y]
           try simp only [Act.put]
           try simp only [put_z]
           refine wpT 4 ?_
           try simp only [put_y]
           try simp only [Act.put]
           try simp only [put_z]
           refine wpT 5 ?_
           try simp only [put_y]
           try simp only [Act.put]
           try simp only [put_z]
           refine wpT 6 ?_
           try simp only [put_y]
           try simp only [Act.put]
           try simp only [put_z]
           refine wpT 7 ?_
           try simp only [put_y]
           try simp only [Act.put]
           try simp only [put_z]
           refine wpT 8 ?_
           try simp only [put_y]
           try simp only [Act.put]
           try simp only [put_z]
           refine wpT 9 ?_
           try simp only [put_y]
           try simp only [Act.put]
           try simp only [put_z]
           refine wpT 10 ?_
           try simp only [put_y]
           try simp only [Act.put]
           try simp only [put_z]
           refine wpAnyH_done (by kernel_rfl) ?_ _
           go_wp2_with fail
           go_meet
           case rel => exact ⟨by rw [HDC.out]; rfl, uD⟩
         ·
          have HDC : Hid (decide (x = z) = false) := decide_eq_false (fun h => q0 (HXZ.out.1 h).1)
          refine wpT 0 ?_
          try simp only [put_y]
          try simp only [Act.put]
          try simp only [put_z]
          refine wpT 1 ?_
          try simp only [put_y]
          try simp only [Act.put]
          try simp only [put_z]
          refine wpT 2 ?_
          try simp only [put_y]
          try simp only [Act.put]
          try simp only [put_z]
          refine wpT 3 ?_
          try simp only [put_y]
          try simp only [Act.put]
          try simp only [put_z]
          refine wpT 4 ?_
          try simp only [put_y]
          try simp only [Act.put]
          try simp only [put_z]
          refine wpT 5 ?_
          try simp only [put_y]
          try simp only [Act.put]
          try simp only [put_z]
          refine wpT 6 ?_
          try simp only [put_y]
          try simp only [Act.put]
          try simp only [put_z]
          refine wpT 7 ?_
          try simp only [put_y]
          try simp only [Act.put]
          try simp only [put_z]
          refine wpT 8 ?_
          try simp only [put_y]
          try simp only [Act.put]
          try simp only [put_z]
          refine wpT 9 ?_
          try simp only [put_y]
          try simp only [Act.put]
          try simp only [put_z]
          refine wpT 10 ?_
          try simp only [put_y]
          try simp only [Act.put]
          try simp only [put_z]
          refine wpAnyH_done (by kernel_rfl) ?_ _
          go_wp2_with fail
          go_meet
          case rel => exact ⟨by rw [HDC.out]; rfl, uD⟩
        case rest =>
         obtain ⟨rfl, hwc⟩ := hcut
         have HUC := Lib.hid (Hu.out.then_non hwc)
         have c11 := cell_upd c11 hwc (fun f => f)
         clear g0 g1 g2 g3 k0 k1 k2 k3 hwc
         obtain ⟨B, HB⟩ := nm (decide (x = z))
         rw [HB.out]
         cases B with
         | false =>
          have HF : Hid (res = false) := HNX.out (of_decide_eq_false HB.out)
          go_wp2_with fail
          go_ret
          exact ⟨by rw [HF.out]; rfl, (HU.out.then_non HU4.out).then_non HUC.out⟩
         | true =>
          have HA2 := Lib.hid (HNY.out (of_decide_eq_true HB.out))
          go_wp2_with fail
          go_roundg (n - (k + 1))
          case measure => rw [Hg.out]; omega
          case rel => exact ⟨k + 1, rfl, by omega, by go_num, HA2, HUC⟩
       ·
        obtain rfl : n = k := by omega
        have HT : Hid (res = true) := by
         show _ = _
         rw [HD.out]
         have h := HA.out
         rw [← Hpn.out, List.take_length, Hpn.out, ← Hqn.out, List.take_length] at h
         exact decide_eq_true h
        go_wp2_with fail
        go_ret
        exact ⟨by rw [HT.out]; rfl, (HU.out.then_non HU4.out).then_non Hu.out⟩
   ·
    have t1 : (r.vars != s.vars) = false := by simpa using h1
    have t2 : (r.imms != s.imms) = false := by simpa using h2
    have t3 : ((pn : Int) != (qn : Int)) = true := by simpa using fun e => h3 (by omega)
    have HR : Hid (res = false) := by show _ = _; rw [HE.out, decide_eq_false (fun h => h3 h.2.2)]; rfl
    clear h1 h2 h3
    go_enter Try.func34, Try.ntmps34
    go_wp2_with fail
    go_ret
    exact ⟨by rw [HR.out]; rfl, HU.out⟩
  ·
   have t1 : (r.vars != s.vars) = false := by simpa using h1
   have t2 : (r.imms != s.imms) = true := by simpa using h2
   have HR : Hid (res = false) := by show _ = _; rw [HE.out, decide_eq_false (fun h => h2 h.2.1)]; rfl
   clear h1 h2
   go_enter Try.func34, Try.ntmps34
   go_wp2_with fail
   go_ret
   exact ⟨by rw [HR.out]; rfl, HU.out⟩
 ·
  have t1 : (r.vars != s.vars) = true := by simpa using h1
  have HR : Hid (res = false) := by show _ = _; rw [HE.out, decide_eq_false (fun h => h1 h.1)]; rfl
  clear h1
  go_enter Try.func34, Try.ntmps34
  go_wp2_with fail
  go_ret
  exact ⟨by rw [HR.out]; rfl, HU.out⟩
end Go.Proofs.Ytblkgjdhaibhgaa
namespace Go.Proofs.Ytblkgjdhaibhgaa
open Go.RowKit
set_option maxRecDepth 100000 in
set_option maxHeartbeats 2000000 in
theorem sameRules_c (L M : List Rl) (w : World) (F G : Nat → Prop) (A B : Option Addr) (c d : Nat) (hL : RlsV w F A L) (hM : RlsV w G B M) (hz : ∀ r ∈ L, RlSz r) (hn : L.length ≤ 1000000000000) :
  Calls Try.prog 14 #[.slice A L.length c, .slice B M.length d] w fun en w' => en = .returned (.bool (rlsE L M)) ∧ Upd Non w w' := by
 have HE : Hid (∀ h : rlsE L M = false, rlsE L M = false) := fun h => h
 have HL := Lib.hid hL
 have HM := Lib.hid hM
 have HZ := Lib.hid hz
 have HLE : Hid (L.length ≠ M.length → rlsE L M = false) := fun h => by
  cases hq : rlsE L M with
  | false => rfl
  | true => exact absurd (rlsE_len hq) h
 have HNO : Hid (∀ i (h1 : i < L.length) (h2 : i < M.length), (¬ L[i].name = M[i].name ∨ rlE L[i] M[i] = false) → rlsE L M = false) := fun i h1 h2 h => rlsE_no h1 h2 h
 have HYES : Hid (L.length = M.length → (∀ i (h1 : i < L.length) (h2 : i < M.length), L[i].name = M[i].name ∧ rlE L[i] M[i] = true) → rlsE L M = true) := fun h k => rlsE_of h k
 obtain ⟨res, Hres⟩ := nm (rlsE L M)
 rw [Hres.out] at HLE HNO HYES ⊢
 clear HE Hres hL hM hz
 obtain ⟨n, Hn⟩ := nm L.length
 obtain ⟨m, Hm⟩ := nm M.length
 rw [Hn.out] at hn HLE
 rw [Hm.out] at HLE
 rw [Hn.out, Hm.out]
 by_cases hnm : n = m
 ·
  have t0 : ((n : Int) != (m : Int)) = false := by simp [hnm]
  subst hnm
  obtain ⟨nn, rfl⟩ : ∃ q, q = n := ⟨_, rfl⟩
  go_enter Try.func14, Try.ntmps14
  go_wp2_with fail
  go_loopg [5] nn (fun g iv wr => ∃ k : Nat, Hid (g = nn - k) ∧ k ≤ nn ∧ iv = .int .i64 k ∧ Hid (∀ i (h1 : i < L.length) (h2 : i < M.length), i < k → L[i].name = M[i].name ∧ rlE L[i] M[i] = true) ∧ Hid (Upd Non w wr))
  case atStart => exact ⟨0, rfl, Nat.zero_le _, rfl, fun i _ _ h => by omega, Upd.refl⟩
  case round =>
   obtain ⟨k, Hg, hk, rfl, HA, HU⟩ := hrel
   by_cases hlt : k < nn
   ·
    have hkl : k < L.length := by rw [Hn.out]; exact hlt
    have hkm : k < M.length := by rw [Hm.out]; exact hlt
    have HX := Lib.hid (HL.out.upd HU.out (fun _ _ _ f => f))
    have HY := Lib.hid (HM.out.upd HU.out (fun _ _ _ f => f))
    obtain ⟨b, o, a, rfl, _, hbw, hat, hrk⟩ := HX.out.at_ hkl
    obtain ⟨b2, o2, e, rfl, _, hbw2, hat2, hsk⟩ := HY.out.at_ hkm
    have HRZ := Lib.hid (HZ.out _ (List.getElem_mem hkl))
    have HN1 : Hid (¬ L[k].name = M[k].name ∨ rlE L[k] M[k] = false → res = false) := HNO.out k hkl hkm
    have HA2 : Hid (L[k].name = M[k].name → rlE L[k] M[k] = true → ∀ i (h1 : i < L.length) (h2 : i < M.length), i < k + 1 → L[i].name = M[i].name ∧ rlE L[i] M[i] = true) := fun g1 g2 i h1 h2 h => by
     by_cases q : i < k
     ·
      exact HA.out i h1 h2 q
     ·
      obtain rfl : i = k := by omega
      exact ⟨g1, g2⟩
    clear HX HY
    generalize L[k] = r at *
    generalize M[k] = s at *
    obtain ⟨wD, HwD⟩ := nm wr.drew
    have uD : Upd Non wr wD := by rw [← HwD.out]; exact Upd.refl.drew
    have CS := Lib.hid (fun W (u : Upd Non wr W) => sameRule_c r a s e W F G (hrk.upd u (fun _ _ _ f => f)) (hsk.upd u (fun _ _ _ f => f)) HRZ.out)
    have HRS : Hid (∀ W, Upd Non wr W → RlAt W b (o + k * 14) r a ∧ RlAt W b2 (o2 + k * 14) s e) := fun W u => ⟨hat.upd u (fun f => f), hat2.upd u (fun f => f)⟩
    have HrD := Lib.hid (hat.upd uD (fun f => f))
    have HsD := Lib.hid (hat2.upd uD (fun f => f))
    clear hat hat2 hrk hsk
    unfold rlv rlCells at CS
    unfold RlAt at HRS HrD HsD
    obtain ⟨E, HE⟩ := nm (rlE r s)
    rw [HE.out] at CS HN1 HA2
    obtain ⟨na, Hna⟩ := nm r.name
    obtain ⟨nb, Hnb⟩ := nm s.name
    rw [Hna.out, Hnb.out] at CS HN1 HA2
    rw [Hna.out] at HrD
    rw [Hnb.out] at HsD
    rw [Hna.out, Hnb.out] at HRS
    go_upto_region 6 with fail
    go_cut [39] (fun v wx => v = .bool (!(decide (na = nb) && E)) ∧ Upd Non wr wx)
    case first =>
     refine wp_region_held_drew (S := fun w' => (w'.cell? ⟨b, o + k * 14, none⟩ = some (.string na) ∧ w'.cell? ⟨b, o + k * 14 + 1, none⟩ = some (.int .i64 r.l.v) ∧ w'.cell? ⟨b, o + k * 14 + 2, none⟩ = some (.int .i64 r.l.op) ∧ w'.cell? ⟨b, o + k * 14 + 3, none⟩ = some (.int .i64 r.l.imm) ∧ w'.cell? ⟨b, o + k * 14 + 4, none⟩ = some (.int .i64 r.l.iv) ∧ w'.cell? ⟨b, o + k * 14 + 5, none⟩ = some (.slice a.la r.l.kids.length a.lc) ∧ w'.cell? ⟨b, o + k * 14 + 6, none⟩ = some (.int .i64 r.r.v) ∧ w'.cell? ⟨b, o + k * 14 + 7, none⟩ = some (.int .i64 r.r.op) ∧ w'.cell? ⟨b, o + k * 14 + 8, none⟩ = some (.int .i64 r.r.imm) ∧ w'.cell? ⟨b, o + k * 14 + 9, none⟩ = some (.int .i64 r.r.iv) ∧ w'.cell? ⟨b, o + k * 14 + 10, none⟩ = some (.slice a.ra r.r.kids.length a.rc) ∧ w'.cell? ⟨b, o + k * 14 + 11, none⟩ = some (.slice a.ca r.conds.length a.cc) ∧ w'.cell? ⟨b, o + k * 14 + 12, none⟩ = some (.int .i64 r.vars) ∧ w'.cell? ⟨b, o + k * 14 + 13, none⟩ = some (.int .i64 r.imms)) ∧ w'.cell? ⟨b2, o2 + k * 14, none⟩ = some (.string nb) ∧ w'.cell? ⟨b2, o2 + k * 14 + 1, none⟩ = some (.int .i64 s.l.v) ∧ w'.cell? ⟨b2, o2 + k * 14 + 2, none⟩ = some (.int .i64 s.l.op) ∧ w'.cell? ⟨b2, o2 + k * 14 + 3, none⟩ = some (.int .i64 s.l.imm) ∧ w'.cell? ⟨b2, o2 + k * 14 + 4, none⟩ = some (.int .i64 s.l.iv) ∧ w'.cell? ⟨b2, o2 + k * 14 + 5, none⟩ = some (.slice e.la s.l.kids.length e.lc) ∧ w'.cell? ⟨b2, o2 + k * 14 + 6, none⟩ = some (.int .i64 s.r.v) ∧ w'.cell? ⟨b2, o2 + k * 14 + 7, none⟩ = some (.int .i64 s.r.op) ∧ w'.cell? ⟨b2, o2 + k * 14 + 8, none⟩ = some (.int .i64 s.r.imm) ∧ w'.cell? ⟨b2, o2 + k * 14 + 9, none⟩ = some (.int .i64 s.r.iv) ∧ w'.cell? ⟨b2, o2 + k * 14 + 10, none⟩ = some (.slice e.ra s.r.kids.length e.rc) ∧ w'.cell? ⟨b2, o2 + k * 14 + 11, none⟩ = some (.slice e.ca s.conds.length e.cc) ∧ w'.cell? ⟨b2, o2 + k * 14 + 12, none⟩ = some (.int .i64 s.vars) ∧ w'.cell? ⟨b2, o2 + k * 14 + 13, none⟩ = some (.int .i64 s.imms)) (by kernel_rfl) (by rw [HwD.out]; exact ⟨HrD.out, HsD.out⟩) (fun hHeld => ?_)
     rw [HwD.out] at hHeld ⊢
     by_cases hq : na = nb
     ·
      have hq1 : (na.toList != nb.toList) = false := by simp [hq]
      have hq2 : (na.toList == nb.toList) = true := by simp [hq]
      have HQ : Hid (decide (na = nb) = true) := decide_eq_true hq
      clear hq
      refine wpT 0 ?_
      try simp only [put_y]
      try simp only [Act.put]
      try simp only [put_z]
      refine wpT 1 ?_
      try simp only [put_y]
      try simp only [Act.put]
      try simp only [put_z]
      refine wpT 2 ?_
      try simp only [put_y]
      try simp only [Act.put]
      try simp only [put_z]
      refine wpT 3 ?_
      try simp only [put_y]
      try simp only [Act.put]
      try simp only [put_z]
      refine wpT 4 ?_
      try simp only [put_y]
      try simp only [Act.put]
      try simp only [put_z]
      refine wpT 5 ?_
      try simp only [put_y]
      try simp only [Act.put]
      try simp only [put_z]
      refine wpT 6 ?_
      try simp only [put_y]
      try simp only [Act.put]
      try simp only [put_z]
      refine wpT 7 ?_
      try simp only [put_y]
      try simp only [Act.put]
      try simp only [put_z]
      refine wpT 8 ?_
      try simp only [put_y]
      try simp only [Act.put]
      try simp only [put_z]
      refine wpT 9 ?_
      try simp only [put_y]
      try simp only [Act.put]
      try simp only [put_z]
      refine wpT 10 ?_
      try simp only [put_y]
      try simp only [Act.put]
      try simp only [put_z]
      refine wpT 11 ?_
      try simp only [put_y]
      try simp only [Act.put]
      try simp only [put_z]
      refine wpT 12 ?_
      try simp only [put_y]
      try simp only [Act.put]
      try simp only [put_z]
      refine wpT 13 ?_
      try simp only [put_y]
      try simp only [Act.put]
      try simp only [put_z]
      refine wpT 14 ?_
      try simp only [put_y]
      try simp only [Act.put]
      try simp only [put_z]
      refine wpT 15 ?_
      try simp only [put_y]
      try simp only [Act.put]
      try simp only [put_z]
      refine wpT 16 ?_
      try simp only [put_y]
      try simp only [Act.put]
      try simp only [put_z]
      refine wpT 17 ?_
      try simp only [put_y]
      try simp only [Act.put]
      try simp only [put_z]
      refine wpT 18 ?_
      try simp only [put_y]
      try simp only [Act.put]
      try simp only [put_z]
      refine wpT 19 ?_
      try simp only [put_y]
      try simp only [Act.put]
      try simp only [put_z]
      refine wpAnyH_ready (rs := [20]) (by kernel_rfl) (by simp) ?_
      refine AllReadyH.cons rfl (fun K hK => ?_) AllReadyH.nil
      go_simp
      refine (CS.out _ uD).mono ?_
      rintro en w5 ⟨rfl, u5⟩
      have h5 : Upd Non wr w5 := uD.then_non u5
      go_wp2_with fail
      refine hK.out _ _ ?_ (fun hHeld => ?_)
      ·
       exact HRS.out w5 h5
      clear hK K
      try simp only [put_y]
      try simp only [Act.put]
      try simp only [put_z]
      refine wpT 21 ?_
      try simp only [put_y]
      try simp only [Act.put]
      try simp only [put_z]
      refine wpT 22 ?_
      try simp only [put_y]
      try simp only [Act.put]
      try simp only [put_z]
      refine wpAnyH_done (by kernel_rfl) ?_ _
      go_wp2_with fail
      go_meet
      case rel => exact ⟨by rw [HQ.out]; rfl, h5⟩
     ·
      have hq1 : (na.toList != nb.toList) = true := by simpa using fun q => hq (by rw [ByteArray.toList_eq, ByteArray.toList_eq] at q; cases na; cases nb; simpa using q)
      have hq2 : (na.toList == nb.toList) = false := by simpa using fun q => hq (by rw [ByteArray.toList_eq, ByteArray.toList_eq] at q; cases na; cases nb; simpa using q)
      have HQ : Hid (decide (na = nb) = false) := decide_eq_false hq
      clear hq
      refine wpT 0 ?_
      try simp only [put_y]
      try simp only [Act.put]
      try simp only [put_z]
      refine wpT 1 ?_
      try simp only [put_y]
      try simp only [Act.put]
      try simp only [put_z]
      refine wpT 2 ?_
      try simp only [put_y]
      try simp only [Act.put]
      try simp only [put_z]
      refine wpT 3 ?_
      try simp only [put_y]
      try simp only [Act.put]
      try simp only [put_z]
      refine wpT 4 ?_
      try simp only [put_y]
      try simp only [Act.put]
      try simp only [put_z]
      refine wpT 5 ?_
      try simp only [put_y]
      try simp only [Act.put]
      try simp only [put_z]
      refine wpT 6 ?_
      try simp only [put_y]
      try simp only [Act.put]
      try simp only [put_z]
      refine wpT 7 ?_
      try simp only [put_y]
      try simp only [Act.put]
      try simp only [put_z]
      refine wpT 8 ?_
      try simp only [put_y]
      try simp only [Act.put]
      try simp only [put_z]
      refine wpT 9 ?_
      try simp only [put_y]
      try simp only [Act.put]
      try simp only [put_z]
      refine wpT 10 ?_
      try simp only [put_y]
      try simp only [Act.put]
      try simp only [put_z]
      refine wpT 11 ?_
      try simp only [put_y]
      try simp only [Act.put]
      try simp only [put_z]
      refine wpU 12 ?_
      try simp only [put_y]
      try simp only [Act.put]
      try simp only [put_z]
      refine wpU 13 ?_
      try simp only [put_y]
      try simp only [Act.put]
      try simp only [put_z]
      refine wpU 14 ?_
      try simp only [put_y]
      try simp only [Act.put]
      try simp only [put_z]
      refine wpU 15 ?_
      try simp only [put_y]
      try simp only [Act.put]
      try simp only [put_z]
      refine wpU 16 ?_
      try simp only [put_y]
      try simp only [Act.put]
      try simp only [put_z]
      refine wpU 17 ?_
      try simp only [put_y]
      try simp only [Act.put]
      try simp only [put_z]
      refine wpU 18 ?_
      try simp only [put_y]
      try simp only [Act.put]
      try simp only [put_z]
      refine wpU 19 ?_
      try simp only [put_y]
      try simp only [Act.put]
      try simp only [put_z]
      refine wpU 20 ?_
      try simp only [put_y]
      try simp only [Act.put]
      try simp only [put_z]
      refine wpU 21 ?_
      try simp only [put_y]
      try simp only [Act.put]
      try simp only [put_z]
      refine wpT 22 ?_
      try simp only [put_y]
      try simp only [Act.put]
      try simp only [put_z]
      refine wpAnyH_done (by kernel_rfl) ?_ _
      go_wp2_with fail
      go_meet
      case rel => exact ⟨by rw [HQ.out]; rfl, uD⟩
    case rest =>
     obtain ⟨rfl, hwc⟩ := hcut
     have HUC := Lib.hid (HU.out.then_non hwc)
     clear hwc
     obtain ⟨D, HD⟩ := nm (decide (na = nb) && E)
     rw [HD.out]
     cases D with
     | false =>
      have HF : Hid (res = false) := HN1.out (by
       have h := HD.out
       rw [Bool.and_eq_false_iff] at h
       exact h.imp of_decide_eq_false id)
      go_wp2_with fail
      go_ret
      exact ⟨by rw [HF.out]; rfl, HUC.out⟩
     | true =>
      have HA3 : Hid (∀ i (h1 : i < L.length) (h2 : i < M.length), i < k + 1 → L[i].name = M[i].name ∧ rlE L[i] M[i] = true) := by
       have h := HD.out
       rw [Bool.and_eq_true] at h
       exact HA2.out (of_decide_eq_true h.1) h.2
      go_wp2_with fail
      go_roundg (nn - (k + 1))
      case measure => rw [Hg.out]; omega
      case rel => exact ⟨k + 1, rfl, by omega, by go_num, HA3, HUC⟩
   ·
    obtain rfl : nn = k := by omega
    have HT : Hid (res = true) := HYES.out (by rw [Hn.out, Hm.out]) fun i h1 h2 => HA.out i h1 h2 (by rw [← Hn.out]; exact h1)
    go_wp2_with fail
    go_ret
    exact ⟨by rw [HT.out]; rfl, HU.out⟩
 ·
  have t0 : ((n : Int) != (m : Int)) = true := by simpa using fun e => hnm (by omega)
  have HF : Hid (res = false) := HLE.out hnm
  clear hnm
  go_enter Try.func14, Try.ntmps14
  go_wp2_with fail
  go_ret
  exact ⟨by rw [HF.out]; rfl, Upd.refl⟩
end Go.Proofs.Ytblkgjdhaibhgaa
namespace Go.Proofs.Ytblkgjdhaibhgaa
open Go.RowKit
theorem axFile_kstr (S : List (Bs × Bs)) (x : Bs × Bs) : ((kstr (axFile S) ++ ({ data := #[97, 120, 105, 111, 109, 32] } : ByteArray)) ++ kstr x.1) ++ ({ data := #[59, 10] } : ByteArray) = kstr (axFile (S ++ [x])) := by
 rw [show ({ data := #[97, 120, 105, 111, 109, 32] } : ByteArray) = kstr [97, 120, 105, 111, 109, 32] from rfl, show ({ data := #[59, 10] } : ByteArray) = kstr [59, 10] from rfl, kstr_app, kstr_app, kstr_app, axFile_snoc]
 simp [axLn]
set_option maxRecDepth 100000 in
set_option maxHeartbeats 4000000 in
theorem RuAxiomFile_c (w : World) (mask : Int) : Calls Try.prog 5 #[.int .i64 mask] w fun e w' => e = .returned (.bool true) ∧ Upd Non w w' := by
 have CX := Lib.hid (rAxioms_c w)
 have CA := Lib.hid (fun (x : Bs × Bs) W => rAxiom_c x.1 W)
 have CE := Lib.hid (fun W => RuExamples_c W)
 go_enter Try.func5, Try.ntmps5
 go_wp2_with fail
 refine CX.out.mono ?_
 rintro e w1 ⟨A1, c1, rfl, ho1, _, u1⟩
 obtain ⟨g, rfl⟩ := ho1.some_ (by omega)
 have hc22 : (22 : Nat) ≤ c1 := ho1.le
 have HO1 := Lib.hid ho1
 have HU1 := Lib.hid u1
 clear CX ho1 u1
 go_wp2_with fail
 go_loopg [3, 4, 15] 22 (fun gg s l i wr => ∃ (j : Nat) (S : List (Bs × Bs)) (Q : List Rl) (A : Option Addr) (c : Nat), Hid (gg = 22 - j) ∧ j ≤ 22 ∧ i = .int .i64 j ∧ s = .string (kstr (axFile S)) ∧ l = .slice A Q.length c ∧ Hid (S.Sublist (axL.take j)) ∧ Hid (AxRs S Q) ∧ Hid (RlO wr (fun k => w1.heap.size ≤ k) A Q.length c Q) ∧ Hid (∀ k, At A k → w1.heap.size ≤ k) ∧ Hid (Upd Non w1 wr))
 case atStart => exact ⟨0, [], [], none, 0, rfl, Nat.zero_le _, rfl, rfl, rfl, List.Sublist.refl _, AxRs.nil, RlO.none_, fun k h => (At.none_ h).elim, Upd.refl⟩
 case round =>
  obtain ⟨j, S, Q, A, c, Hg, hj, rfl, rfl, rfl, HSU, HAR, HRO, HAT, HU⟩ := hrel
  by_cases hlt : j < 22
  ·
   have hal : j < axL.length := hlt
   have hcell : wr.cell? ⟨g, j, none⟩ = some (.string (kstr axL[j].1)) := by
    have h1 := (HO1.out.cell_ (i := j) (by simpa [nmCs] using hal))
    refine cell_upd (S := Non) ?_ HU.out (fun f => f)
    rw [h1]
    simp [nmCs]
   have HMEM : Hid (axL[j] ∈ axL) := List.getElem_mem hal
   have HTK : Hid (axL.take (j + 1) = axL.take j ++ [axL[j]]) := take_snoc' hal
   generalize axL[j] = xx at *
   obtain ⟨ra, hax⟩ := ax_rule HMEM.out
   have HAX := Lib.hid hax
   have HFK := Lib.hid (axFile_kstr S xx)
   have CA1 := Lib.hid (CA.out xx)
   obtain ⟨nx, Hnx⟩ := nm (kstr xx.1)
   obtain ⟨fs, Hfs⟩ := nm (kstr (axFile S))
   rw [Hnx.out, Hfs.out] at HFK
   rw [Hnx.out] at hcell CA1
   have hfl : fs.size ≤ 20000 := by
    rw [← Hfs.out, kstr_size, axFile_len]
    exact Nat.le_trans (sum_sub _ (HSU.out.trans (List.take_sublist _ _))) ax_tot.2
   have hnl : nx.size ≤ 1000 := by rw [← Hnx.out]; exact (ax_size HMEM.out).1
   have g1 : ¬ 9223372036854775807 < fs.size + 6 := by omega
   have g2 : ¬ 9223372036854775807 < fs.size + 6 + nx.size := by omega
   have g3 : ¬ 9223372036854775807 < fs.size + 6 + nx.size + 2 := by omega
   have HQC : Hid (Q.length ≤ c) := HRO.out.le
   have hQl : Q.length ≤ 22 := by
    have h1 := HAR.out.1
    have h2 := (HSU.out.trans (List.take_sublist _ _)).length_le
    have h3 : axL.length = 22 := rfl
    omega
   obtain ⟨qn, Hqn⟩ := nm Q.length
   obtain ⟨B, hB⟩ : ∃ B, (bits BinOp.and IntKind.i64 (mask / 2 ^ j) 1 == 1) = B := ⟨_, rfl⟩
   clear hax hfl hnl
   rw [Hfs.out]
   cases B with
   | false =>
    clear HFK CA1
    go_wp2_with fail
    go_roundg (22 - (j + 1))
    case measure => rw [Hg.out]; omega
    case rel => exact ⟨j + 1, S, Q, A, c, rfl, by omega, by go_num, by rw [Hfs.out], rfl, by show List.Sublist _ _; rw [HTK.out]; exact HSU.out.trans (List.sublist_append_left _ _), HAR.out, HRO.out, HAT.out, HU.out⟩
   | true =>
    have CA2 := Lib.hid (CA1.out wr)
    have eq3 := HFK.out
    obtain ⟨f2, Hf2⟩ := nm (kstr (axFile (S ++ [xx])))
    rw [Hf2.out] at eq3
    have EQ3 := Lib.hid eq3
    clear CA1 HFK eq3
    go_wp2_with fail
    refine CA2.out.mono ?_
    rintro e w3 ⟨rl, a, b, rfl, hk3, u3, hb1, hb0⟩
    have hb : b = true := by
     cases b with
     | true => rfl
     | false => have := hb0 rfl; rw [HAX.out.eq] at this; cases this
    subst hb
    have hrl : rl = ra := by have := hb1 rfl; rw [HAX.out.eq] at this; injection this with this; exact this.symm
    subst hrl
    clear hb0 hb1 CA2 hcell g1 g2 g3
    have HRO3 := Lib.hid (HRO.out.upd u3 (fun _ _ f => f) (fun _ _ _ f => f))
    have hat3 : ∀ k, At A k → k < wr.heap.size := fun k h => HRO.out.lt h
    have hk3 : RlK w3 (fun k => w1.heap.size ≤ k ∧ ¬ At A k) rl a := hk3.mono (fun k _ h => ⟨by have := HU.out.size; omega, fun r => by have := hat3 k r; omega⟩)
    have HK3 := Lib.hid hk3
    have HU3 := Lib.hid (HU.out.then_non u3)
    obtain ⟨W4, HW4⟩ := nm (w3.alloc (.cells (rlCells rl a) 33))
    have u4 : Upd Non w3 W4 := by rw [← HW4.out]; exact Upd.refl.alloc _
    have b4 : Blk W4 w3.heap.size 33 (rlCells rl a) := by rw [← HW4.out]; exact Blk.new _ _ _
    have e4 := HW4.out
    have HB4 := Lib.hid b4
    have HU4 := Lib.hid u4
    unfold rlCells at e4
    unfold rlv rlCells
    clear hk3 u3 u4 HW4 b4 hat3
    obtain ⟨x0, x1, x2, x3, x4, x5, x6, x7, x8, x9, x10, x11, x12, x13⟩ := rl_cells HB4.out
    obtain ⟨hqn, cs, hown, hcs⟩ := id (HRO3.out.upd HU4.out (fun _ _ f => f) (fun _ _ _ f => f))
    have hown2 : Own W4 33 14 A qn c cs := by rw [← Hqn.out]; exact hown
    have HCS := Lib.hid hcs
    have HOA : Hid (∀ k, At A k → k < W4.heap.size) := fun k h => hown.lt h
    rw [Hqn.out] at hQl ⊢
    clear hqn hown hcs
    go_wp2_with (at_builtin; refine wpList_app rfl rfl T_rules rfl (hown2.alloc _) rfl (Sl.new _ _ _) rfl (by simp [Value.oneCell']) (by simp only [maxLen]; omega) (by omega) ?_; intro A8 c8 w8 ho8 hu8 hat8)
    have UA : Upd Non W4 (W4.alloc (.cells (rlCells rl a) 33)) := Upd.refl.alloc _
    have HRO8 := Lib.hid (RlO.snoc (G' := fun k => w1.heap.size ≤ k) (w := W4.alloc (.cells (rlCells rl a) 33)) Hqn.out.symm (HCS.out.mono UA (fun _ _ _ f => f) (fun _ _ h => h)) ((HK3.out.upd HU4.out (fun _ _ _ f => f)).upd UA (fun _ _ _ f => f)) ho8 hu8 hat8 (fun _ _ h => h))
    have HU8 : Hid (Upd Non w1 w8) := ((HU3.out.then_non HU4.out).then_non UA).trans hu8 (fun k hk h => by have := HAT.out k h; omega)
    have HA8 : Hid (∀ k, At A8 k → w1.heap.size ≤ k) := fun k h => by
     rcases hat8 k h with h | h
     ·
      exact HAT.out k h
     ·
      have h1 := (HU3.out.then_non HU4.out).size
      have h2 := UA.size
      rw [h]
      exact Nat.le_trans h1 h2
    clear ho8 hu8 hat8 UA hown2 e4 x0 x1 x2 x3 x4 x5 x6 x7 x8 x9 x10 x11 x12 x13
    go_wp2_with fail
    go_roundg (22 - (j + 1))
    case measure => rw [Hg.out]; omega
    case rel => exact ⟨j + 1, S ++ [xx], Q ++ [rl], A8, c8, rfl, by omega, by go_num, by rw [Hf2.out, EQ3.out], by rw [List.length_append, Hqn.out]; rfl, by show List.Sublist _ _; rw [HTK.out]; exact HSU.out.append_right _, HAR.out.snoc HAX.out, by rw [List.length_append, Hqn.out]; exact HRO8.out, HA8.out, HU8.out⟩
  ·
   obtain rfl : j = 22 := by omega
   have hS : S.Sublist axL := by
    have h := HSU.out
    rwa [List.take_of_length_le (show axL.length ≤ 22 from Nat.le_refl _)] at h
   have CP := Lib.hid (rParse_all (kstr (axFile S)) wr)
   rw [kx_kstr, axfile_parse HAR.out hS] at CP
   have HP2 : Hid (parseF (printF Q) = .ok Q) := axprint_parse HAR.out hS
   have HRZ : Hid (∀ r ∈ Q, RlSz r) := fun r hr => by obtain ⟨x, _, k⟩ := HAR.out.mem hr; exact k.sz
   have HRI : Hid (∀ r ∈ Q, RlI r) := fun r hr => by obtain ⟨x, _, k⟩ := HAR.out.mem hr; exact k.i
   have HV := Lib.hid (HRO.out.view (F := fun k => w1.heap.size ≤ k) HAT.out (fun _ _ h => h))
   have HQL : Hid (Q.length ≤ 1000000) := by
    show _ ≤ _
    rw [HAR.out.1]
    have := sub_len hS
    omega
   obtain ⟨fs, Hfs⟩ := nm (kstr (axFile S))
   rw [Hfs.out] at CP ⊢
   obtain ⟨n, Hn⟩ := nm Q.length
   rw [Hn.out]
   go_wp2_with fail
   refine CP.out.mono ?_
   rintro e w3 ⟨u3, h⟩
   rcases h with ⟨er, h, _⟩ | ⟨Q', A3, c3, h, rfl, hv3, -⟩
   ·
    cases h
   injection h with h
   subst h
   rw [Hn.out]
   obtain ⟨W4, HW4⟩ := nm (w3.alloc (.cells #[.int .i64 0, .int .i64 0] 25))
   have u4 : Upd Non w3 W4 := by rw [← HW4.out]; exact Upd.refl.alloc _
   have b4 : Blk W4 w3.heap.size 25 #[.int .i64 0, .int .i64 0] := by rw [← HW4.out]; exact Blk.new _ _ _
   have HV4 := Lib.hid (HV.out.upd (u3.then_non u4) (fun _ _ _ f => f))
   have HY4 := Lib.hid (hv3.upd u4 (fun _ _ _ f => f))
   have HU4 := Lib.hid ((HU.out.then_non u3).then_non u4)
   have HB4 := Lib.hid b4
   have CPR := Lib.hid (rPrint_c W4 _ A c Q HV4.out HRZ.out HRI.out HQL.out)
   rw [Hn.out] at CPR
   obtain ⟨ps, Hps⟩ := nm (kstr (printF Q))
   rw [Hps.out] at CPR
   clear CP u3 u4 b4 hv3 HV
   go_upto_region 14 with fail
   rw [HW4.out]
   go_wp2_with fail
   refine CPR.out.mono ?_
   rintro e w5 ⟨rfl, u5⟩
   have CP5 := Lib.hid (rParse_all ps w5)
   rw [← Hps.out, kx_kstr, HP2.out, Hps.out] at CP5
   clear CPR
   go_wp2_with fail
   refine CP5.out.mono ?_
   rintro e w6 ⟨u6, h⟩
   rcases h with ⟨er, h, _⟩ | ⟨Q', A6, c6, h, rfl, hv6, -⟩
   ·
    cases h
   injection h with h
   subst h
   rw [Hn.out]
   obtain ⟨W7, HW7⟩ := nm (w6.alloc (.cells #[.int .i64 0, .int .i64 0] 25))
   have u7 : Upd Non w6 W7 := by rw [← HW7.out]; exact Upd.refl.alloc _
   have b7 : Blk W7 w6.heap.size 25 #[.int .i64 0, .int .i64 0] := by rw [← HW7.out]; exact Blk.new _ _ _
   have U7 := (u5.then_non u6).then_non u7
   have b47 := HB4.out.upd U7 (fun f => f)
   have HV7 := Lib.hid (HV4.out.upd U7 (fun _ _ _ f => f))
   have HY7 := Lib.hid (HY4.out.upd U7 (fun _ _ _ f => f))
   have HZ7 := Lib.hid (hv6.upd u7 (fun _ _ _ f => f))
   have HU7 := Lib.hid (HU4.out.then_non U7)
   have CS1 := Lib.hid (sameRules_c Q Q W7 _ _ A3 A c3 c HY7.out HV7.out HRZ.out (by have := HQL.out; omega))
   have CS2 := Lib.hid (fun W (u : Upd Non W7 W) => sameRules_c Q Q W _ _ A6 A c6 c (HZ7.out.upd u (fun _ _ _ f => f)) (HV7.out.upd u (fun _ _ _ f => f)) HRZ.out (by have := HQL.out; omega))
   rw [rlsE_refl, Hn.out] at CS1
   rw [rlsE_refl, Hn.out] at CS2
   have z0 := b47.cell 0
   have z1 := b47.cell 1
   have y0 := b7.cell 0
   have y1 := b7.cell 1
   clear CP5 u5 u6 u7 U7 b47 b7 hv6 HB4 HV4 HY4
   go_upto_region 15 with fail
   rw [HW7.out]
   go_wp2_with fail
   refine CS1.out.mono ?_
   rintro e w8 ⟨rfl, u8⟩
   have CS28 := Lib.hid (CS2.out _ u8)
   clear z0 z1 y0 y1
   go_wp2_with fail
   refine CS28.out.mono ?_
   rintro e w9 ⟨rfl, u9⟩
   go_wp2_with fail
   refine (CE.out _).mono ?_
   rintro e w10 ⟨rfl, u10⟩
   go_wp2_with fail
   go_ret
   exact ⟨rfl, (((HU1.out.then_non HU7.out).then_non u8).then_non u9).then_non u10⟩
end Go.Proofs.Ytblkgjdhaibhgaa
namespace Go.Proofs.Ytblkgjdhaibhgaa
open Go.RowKit Go.WideShapes Go.ChangeShapes
section
variable {H : Type} {enc : TypeId × Value → H} {P : Program}
theorem post_of_below {f : Func} {s : ChangeSpec} {apart fresh handsOn again : Bool} {W W' : World} {args : Array Value} {v : Value} {ds gs : List (DataW H)} {before pa pv : List MemPlace}
  (hW : DataW.Whole enc P f.params.toList s.vars apart W args.toList ds gs before)
  (hres : ∀ (b : Nat) (sp : Nat → Bool) (hd : Bool), DataW.TrodAll enc P W' b sp hd f.resultTypes.toList (v.resultList f.resultTypes.size) (s.fn H (ds ++ gs)).results [])
  (hargs : ∀ sp : Nat → Bool, (∀ p ∈ before, sp p.block = true) → DataW.TrodAll enc P W' 0 sp true f.params.toList args.toList (s.fn H (ds ++ gs)).args pa)
  (hvars : ∀ sp : Nat → Bool, (∀ p ∈ before, sp p.block = true) → DataW.TrodVars enc P W' sp s.vars (s.fn H (ds ++ gs)).vars pv)
  (hps : before = pa ++ pv) (hb : Below W.heap.size W W')
  (hok : ∀ (j : Nat) (t : TypeId) (r : Value), f.resultTypes[j]? = some t → (v.resultList f.resultTypes.size)[j]? = some r → Value.okWide P W' .any 0 t r) :
  s.post enc P f apart fresh handsOn again W args v W' := by
 have hlt : ∀ p ∈ before, p.block < W.heap.size := fun p hp => hW.lt p hp
 have hold : ∀ p ∈ before, (fun b => decide (b < W.heap.size)) p.block = true := fun p hp => by simpa using hlt p hp
 refine ⟨ds, gs, before, [], pa, pv, hW, hres _ _ _, hargs _ hold, hvars _ hold, World.keptBut_mono (fun p hp => ⟨hp, ?_⟩) (hb.frame (· ∈ before)), fun _ => ?_⟩
 ·
  rw [hps, List.mem_append] at hp
  exact Or.inr hp
 ·
  obtain ⟨_, _, _, _, _, hz, hn⟩ := hW
  refine ⟨hok, _, _, ([] ++ pa) ++ pv, ⟨[] ++ pa, pv, trodAll_append (hargs _ (fun _ _ => rfl)) (hres _ _ _), hvars _ (fun _ _ => rfl), rfl, ?_, ?_⟩, ?_⟩
  ·
   intro b off hp
   have hin : MemPlace.cell b off ∈ before := by rw [hps]; simpa using hp
   rw [hb.frozen (hlt _ hin)]
   exact hz b off hin
  ·
   intro ha
   have := hn ha
   rw [hps] at this
   simpa using this
  ·
   intro p hp _
   rw [hps]
   simpa using hp
theorem trodAll_stays (hl : laidOutB P = true) {W W' : World} {sp : Nat → Bool} : ∀ {ts : List TypeId} {vs : List Value} {ds : List (DataW H)} {ps : List MemPlace},
  (ts.all fun t => P.readableRec t && decide (t < P.types.size)) = true → DataW.TrodAll enc P W 0 (fun _ => true) true ts vs ds ps → (∀ p ∈ ps, W.sameAt W' p) → (∀ p ∈ ps, sp p.block = true) → DataW.TrodAll enc P W' 0 sp true ts vs ds ps
 | [], vs, ds, ps, _, h, _, _ => by
  obtain ⟨rfl, rfl, rfl⟩ := trodAll_nil h
  exact trodAll_mk0
 | t :: ts, vs, ds, ps, ht, h, h1, h2 => by
  obtain ⟨v, vs', d, ds', p, q, rfl, rfl, rfl, hp, hq⟩ := trodAll_cons h
  simp only [List.all_cons, Bool.and_eq_true, decide_eq_true_eq] at ht
  exact trodAll_cons_mk (WideElems.Trod_stays hl ht.1.1 ht.1.2 hp (fun x hx => h1 x (by simp [hx])) (fun x hx => h2 x (by simp [hx])))
   (trodAll_stays hl ht.2 hq (fun x hx => h1 x (by simp [hx])) (fun x hx => h2 x (by simp [hx])))
theorem law_post {f : Func} {s : ChangeSpec} {apart fresh handsOn again : Bool} {W W' : World} {args : Array Value} {ds gs : List (DataW H)} {before : List MemPlace} {tb : TypeId}
  (hW : DataW.Whole enc P f.params.toList s.vars apart W args.toList ds gs before) (hl : laidOutB P = true) (hts : (f.params.toList.all fun t => P.readableRec t && decide (t < P.types.size)) = true) (hv : s.vars = [])
  (hrt : f.resultTypes = #[tb]) (hbool : P.underlying tb = some .bool) (hs : s.fn H (ds ++ gs) = { results := [.lit (.bool true)], args := ds }) (hb : Below W.heap.size W W') :
  s.post enc P f apart fresh handsOn again W args (.bool true) W' := by
 have hW2 := hW
 obtain ⟨p, q, hA, hV, rfl, hz, hn⟩ := hW
 rw [hv] at hV
 obtain ⟨rfl, rfl⟩ := trodVars_none hV
 have hlt : ∀ x ∈ p, x.block < W.heap.size := fun x hx => hW2.lt x (by simpa using hx)
 refine post_of_below (pa := p) (pv := []) hW2 (fun b sp hd => ?_) (fun sp hsp => ?_) (fun sp hsp => ?_) rfl hb ?_
 ·
  rw [hs, hrt]
  exact trodAll_mk1 (shut_bool hbool true)
 ·
  rw [hs]
  exact trodAll_stays hl hts hA (fun x hx => hb.same (hlt x hx)) (fun x hx => hsp x (by simpa using hx))
 ·
  rw [hs, hv]; rfl
 ·
  intro j t r h1 h2
  rw [hrt] at h1 h2
  match j, h1 with
  | 0, h1 =>
   simp at h1
   subst h1
   simp [Value.resultList] at h2
   subst h2
   exact okWide_bool_mk hbool true
end
theorem own_ : ownKnob Try.prog.godebug = none := by kernel_rfl
theorem laidOut_ : laidOutB Try.prog = true := by kernel_rfl
end Go.Proofs.Ytblkgjdhaibhgaa
namespace Go.Proofs.Ytblkgjdhaibhgaa
open Go.RowKit Go.WideShapes Go.ChangeShapes Go.ChangeAt
section
variable {H : Type} {enc : TypeId × Value → H} {P : Program} {w : World}
theorem i64_of_wf {n : Int} (h : (Lit.int .i64 n).wf = true) : I64 n := by
 have h1 : IntKind.i64.min = -9223372036854775808 := rfl
 have h2 : IntKind.i64.max = 9223372036854775807 := rfl
 simp only [Lit.wf, Bool.and_eq_true, decide_eq_true_eq] at h
 unfold I64
 omega
theorem open_i64 {r : Reach} {b0 base : Nat} {sp : Nat → Bool} {held : Bool} {t : TypeId} {v : Value} {d : DataW H} {ps : List MemPlace} (ht : P.underlying t = some (.int .i64)) (hval : Value.okWide P w r b0 t v) (hd : DataW.Trod enc P w base sp held t v d ps) :
  ∃ n, v = .int .i64 n ∧ I64 n := by
 obtain ⟨n, h1, _, _, h2⟩ := open_int ht hval hd
 exact ⟨n, h1, i64_of_wf h2⟩
end
end Go.Proofs.Ytblkgjdhaibhgaa
namespace Go.Proofs.Ytblkgjdhaibhgaa
open Go.RowKit
def rnA0 : Bs := [114, 117, 108, 101, 32, 114, 58, 32, 40, 115, 117, 98, 32, 63, 97, 32, 63, 98, 41, 32, 61, 62, 32, 40, 97, 100, 100, 32, 63, 97, 32, 40, 110, 101, 103, 32, 63, 98, 41, 41, 59]
def rnB0 (x y : UInt8) : Bs := [114, 117, 108, 101, 32, 114, 58, 40, 115, 117, 98, 32, 63, x, 32, 63, y, 41, 61, 62, 32, 40, 97, 100, 100, 32, 63, x, 40, 110, 101, 103, 32, 63, y, 41, 41, 59]
def rnA1 : Bs := [114, 117, 108, 101, 32, 114, 58, 32, 40, 108, 111, 97, 100, 46, 107, 32, 40, 115, 116, 111, 114, 101, 46, 108, 32, 63, 97, 32, 63, 98, 32, 63, 99, 41, 32, 63, 98, 41, 32, 61, 62, 32, 40, 108, 111, 97, 100, 46, 107, 32, 63, 97, 32, 63, 98, 41, 32, 105, 102, 32, 117, 110, 108, 105, 107, 101, 32, 107, 32, 108, 59]
def rnB1 (x y : UInt8) : Bs := [114, 117, 108, 101, 32, 114, 32, 58, 32, 40, 108, 111, 97, 100, 46, x, 32, 40, 115, 116, 111, 114, 101, 46, y, 32, 63, 97, 32, 63, 98, 32, 63, 99, 41, 32, 63, 98, 41, 32, 61, 62, 32, 40, 108, 111, 97, 100, 46, x, 32, 63, 97, 32, 63, 98, 41, 32, 47, 47, 32, 59, 10, 32, 105, 102, 32, 117, 110, 108, 105, 107, 101, 32, x, 32, y, 32, 59]
def rnA2 : Bs := [114, 117, 108, 101, 32, 114, 58, 32, 40, 109, 117, 108, 32, 63, 97, 32, 36, 107, 41, 32, 61, 62, 32, 40, 109, 117, 108, 32, 36, 107, 32, 63, 97, 41, 59]
def rnB2 (x y : UInt8) : Bs := [9, 114, 117, 108, 101, 32, 114, 58, 10, 40, 109, 117, 108, 32, 63, x, 32, 36, y, 41, 32, 61, 62, 32, 40, 109, 117, 108, 32, 36, y, 32, 63, x, 41, 59, 47, 47, 32, x]
theorem ptE_imp (p : Pt) : ∀ q, ptE p q = true → p = q := by
 induction p using Pt.ind with
 | h p ih =>
  intro q h
  rw [ptE_eq, Bool.and_eq_true, decide_eq_true_eq] at h
  obtain ⟨⟨h1, h2, h3, h4, h5⟩, h6⟩ := h
  have hk : p.kids = q.kids := by
   have key : ∀ (ks ls : List Pt), (∀ k ∈ ks, ∀ q, ptE k q = true → k = q) → ks.length = ls.length → ptEL ks ls = true → ks = ls := by
    intro ks
    induction ks with
    | nil => intro ls _ hl _; exact (List.eq_nil_of_length_eq_zero hl.symm).symm
    | cons k ks ihk =>
     intro ls hh hl he
     cases ls with
     | nil => simp at hl
     | cons l ls =>
      simp only [ptEL, Bool.and_eq_true] at he
      rw [hh k List.mem_cons_self _ he.1, ihk ls (fun q hq => hh q (List.mem_cons_of_mem _ hq)) (by simpa using hl) he.2]
   exact key _ _ ih h5 h6
  cases p
  cases q
  dsimp only [Pt.v, Pt.op, Pt.imm, Pt.iv, Pt.kids] at *
  subst h1 h2 h3 h4 hk
  rfl
theorem rlE_imp {r s : Rl} (h : rlE r s = true) (hn : r.name = s.name) : r = s := by
 simp only [rlE, Bool.and_eq_true, decide_eq_true_eq] at h
 obtain ⟨⟨⟨⟨h1, h2, _⟩, h3⟩, h4⟩, h5⟩ := h
 have h3 := ptE_imp _ _ h3
 have h4 := ptE_imp _ _ h4
 cases r
 cases s
 dsimp only at *
 subst h1 h2 h3 h4 h5 hn
 rfl
def pV (n : Int) : Pt := .mk n 0 0 0 []
def rnR (l r : Pt) (cs : List Cd) (vars imms : Int) : Rl := ⟨⟨#[114]⟩, l, r, cs, vars, imms⟩
def rnP0 : Rl := rnR (.mk 0 5 0 0 [pV 1, pV 2]) (.mk 0 4 0 0 [pV 1, .mk 0 20 0 0 [pV 2]]) [] 2 0
def rnP1 : Rl := rnR (.mk 0 23 0 1 [.mk 0 28 0 2 [pV 1, pV 2, pV 3], pV 2]) (.mk 0 23 0 1 [pV 1, pV 2]) [⟨6, 1, 2, 0⟩] 3 2
def rnP2 : Rl := rnR (.mk 0 6 0 0 [pV 1, .mk 0 1 0 1 []]) (.mk 0 6 0 0 [.mk 0 1 0 1 [], pV 1]) [] 1 1
def rnC (p : Rl) (b : Bs) : Bool := match parseF b with
 | .ok [q] => rlE p q && decide (kx p.name = kx q.name)
 | _ => false
theorem rnC_ok {p : Rl} {b : Bs} (h : rnC p b = true) : parseF b = .ok [p] := by
 unfold rnC at h
 split at h
 ·
  rename_i q hq
  simp only [Bool.and_eq_true, decide_eq_true_eq] at h
  rw [rlE_imp h.1 (kx_inj h.2)]
  exact hq
 ·
  cases h
end Go.Proofs.Ytblkgjdhaibhgaa
namespace Go.Proofs.Ytblkgjdhaibhgaa
open Go.RowKit
theorem rn_a0 : rnC rnP0 rnA0 = true ∧ (szB rnP0 && riB rnP0) = true := by decide +kernel
theorem rn_0_0 : (List.range 26).all (fun j => 0 == j || rnC rnP0 (rnB0 (UInt8.ofNat (97 + 0)) (UInt8.ofNat (97 + j)))) = true := by decide +kernel
theorem rn_0_1 : (List.range 26).all (fun j => 1 == j || rnC rnP0 (rnB0 (UInt8.ofNat (97 + 1)) (UInt8.ofNat (97 + j)))) = true := by decide +kernel
theorem rn_0_2 : (List.range 26).all (fun j => 2 == j || rnC rnP0 (rnB0 (UInt8.ofNat (97 + 2)) (UInt8.ofNat (97 + j)))) = true := by decide +kernel
theorem rn_0_3 : (List.range 26).all (fun j => 3 == j || rnC rnP0 (rnB0 (UInt8.ofNat (97 + 3)) (UInt8.ofNat (97 + j)))) = true := by decide +kernel
theorem rn_0_4 : (List.range 26).all (fun j => 4 == j || rnC rnP0 (rnB0 (UInt8.ofNat (97 + 4)) (UInt8.ofNat (97 + j)))) = true := by decide +kernel
theorem rn_0_5 : (List.range 26).all (fun j => 5 == j || rnC rnP0 (rnB0 (UInt8.ofNat (97 + 5)) (UInt8.ofNat (97 + j)))) = true := by decide +kernel
theorem rn_0_6 : (List.range 26).all (fun j => 6 == j || rnC rnP0 (rnB0 (UInt8.ofNat (97 + 6)) (UInt8.ofNat (97 + j)))) = true := by decide +kernel
theorem rn_0_7 : (List.range 26).all (fun j => 7 == j || rnC rnP0 (rnB0 (UInt8.ofNat (97 + 7)) (UInt8.ofNat (97 + j)))) = true := by decide +kernel
theorem rn_0_8 : (List.range 26).all (fun j => 8 == j || rnC rnP0 (rnB0 (UInt8.ofNat (97 + 8)) (UInt8.ofNat (97 + j)))) = true := by decide +kernel
theorem rn_0_9 : (List.range 26).all (fun j => 9 == j || rnC rnP0 (rnB0 (UInt8.ofNat (97 + 9)) (UInt8.ofNat (97 + j)))) = true := by decide +kernel
theorem rn_0_10 : (List.range 26).all (fun j => 10 == j || rnC rnP0 (rnB0 (UInt8.ofNat (97 + 10)) (UInt8.ofNat (97 + j)))) = true := by decide +kernel
theorem rn_0_11 : (List.range 26).all (fun j => 11 == j || rnC rnP0 (rnB0 (UInt8.ofNat (97 + 11)) (UInt8.ofNat (97 + j)))) = true := by decide +kernel
theorem rn_0_12 : (List.range 26).all (fun j => 12 == j || rnC rnP0 (rnB0 (UInt8.ofNat (97 + 12)) (UInt8.ofNat (97 + j)))) = true := by decide +kernel
theorem rn_0_13 : (List.range 26).all (fun j => 13 == j || rnC rnP0 (rnB0 (UInt8.ofNat (97 + 13)) (UInt8.ofNat (97 + j)))) = true := by decide +kernel
theorem rn_0_14 : (List.range 26).all (fun j => 14 == j || rnC rnP0 (rnB0 (UInt8.ofNat (97 + 14)) (UInt8.ofNat (97 + j)))) = true := by decide +kernel
theorem rn_0_15 : (List.range 26).all (fun j => 15 == j || rnC rnP0 (rnB0 (UInt8.ofNat (97 + 15)) (UInt8.ofNat (97 + j)))) = true := by decide +kernel
theorem rn_0_16 : (List.range 26).all (fun j => 16 == j || rnC rnP0 (rnB0 (UInt8.ofNat (97 + 16)) (UInt8.ofNat (97 + j)))) = true := by decide +kernel
theorem rn_0_17 : (List.range 26).all (fun j => 17 == j || rnC rnP0 (rnB0 (UInt8.ofNat (97 + 17)) (UInt8.ofNat (97 + j)))) = true := by decide +kernel
theorem rn_0_18 : (List.range 26).all (fun j => 18 == j || rnC rnP0 (rnB0 (UInt8.ofNat (97 + 18)) (UInt8.ofNat (97 + j)))) = true := by decide +kernel
theorem rn_0_19 : (List.range 26).all (fun j => 19 == j || rnC rnP0 (rnB0 (UInt8.ofNat (97 + 19)) (UInt8.ofNat (97 + j)))) = true := by decide +kernel
theorem rn_0_20 : (List.range 26).all (fun j => 20 == j || rnC rnP0 (rnB0 (UInt8.ofNat (97 + 20)) (UInt8.ofNat (97 + j)))) = true := by decide +kernel
theorem rn_0_21 : (List.range 26).all (fun j => 21 == j || rnC rnP0 (rnB0 (UInt8.ofNat (97 + 21)) (UInt8.ofNat (97 + j)))) = true := by decide +kernel
theorem rn_0_22 : (List.range 26).all (fun j => 22 == j || rnC rnP0 (rnB0 (UInt8.ofNat (97 + 22)) (UInt8.ofNat (97 + j)))) = true := by decide +kernel
theorem rn_0_23 : (List.range 26).all (fun j => 23 == j || rnC rnP0 (rnB0 (UInt8.ofNat (97 + 23)) (UInt8.ofNat (97 + j)))) = true := by decide +kernel
theorem rn_0_24 : (List.range 26).all (fun j => 24 == j || rnC rnP0 (rnB0 (UInt8.ofNat (97 + 24)) (UInt8.ofNat (97 + j)))) = true := by decide +kernel
theorem rn_0_25 : (List.range 26).all (fun j => 25 == j || rnC rnP0 (rnB0 (UInt8.ofNat (97 + 25)) (UInt8.ofNat (97 + j)))) = true := by decide +kernel
theorem rn_0 {i j : Nat} (hi : i < 26) (hj : j < 26) (h : i ≠ j) : parseF (rnB0 (UInt8.ofNat (97 + i)) (UInt8.ofNat (97 + j))) = .ok [rnP0] := by
 have key : ∀ b : Nat → Bool, ((List.range 26).all fun j => i == j || b j) = true → b j = true := fun b h1 => by
  have h2 := List.all_eq_true.1 h1 j (List.mem_range.2 hj)
  rw [Bool.or_eq_true, beq_iff_eq] at h2
  exact h2.resolve_left h
 have hc : i = 0 ∨ i = 1 ∨ i = 2 ∨ i = 3 ∨ i = 4 ∨ i = 5 ∨ i = 6 ∨ i = 7 ∨ i = 8 ∨ i = 9 ∨ i = 10 ∨ i = 11 ∨ i = 12 ∨ i = 13 ∨ i = 14 ∨ i = 15 ∨ i = 16 ∨ i = 17 ∨ i = 18 ∨ i = 19 ∨ i = 20 ∨ i = 21 ∨ i = 22 ∨ i = 23 ∨ i = 24 ∨ i = 25 := by omega
 rcases hc with rfl | rfl | rfl | rfl | rfl | rfl | rfl | rfl | rfl | rfl | rfl | rfl | rfl | rfl | rfl | rfl | rfl | rfl | rfl | rfl | rfl | rfl | rfl | rfl | rfl | rfl
 ·
  exact rnC_ok (key (fun j => rnC rnP0 (rnB0 (UInt8.ofNat (97 + 0)) (UInt8.ofNat (97 + j)))) rn_0_0)
 ·
  exact rnC_ok (key (fun j => rnC rnP0 (rnB0 (UInt8.ofNat (97 + 1)) (UInt8.ofNat (97 + j)))) rn_0_1)
 ·
  exact rnC_ok (key (fun j => rnC rnP0 (rnB0 (UInt8.ofNat (97 + 2)) (UInt8.ofNat (97 + j)))) rn_0_2)
 ·
  exact rnC_ok (key (fun j => rnC rnP0 (rnB0 (UInt8.ofNat (97 + 3)) (UInt8.ofNat (97 + j)))) rn_0_3)
 ·
  exact rnC_ok (key (fun j => rnC rnP0 (rnB0 (UInt8.ofNat (97 + 4)) (UInt8.ofNat (97 + j)))) rn_0_4)
 ·
  exact rnC_ok (key (fun j => rnC rnP0 (rnB0 (UInt8.ofNat (97 + 5)) (UInt8.ofNat (97 + j)))) rn_0_5)
 ·
  exact rnC_ok (key (fun j => rnC rnP0 (rnB0 (UInt8.ofNat (97 + 6)) (UInt8.ofNat (97 + j)))) rn_0_6)
 ·
  exact rnC_ok (key (fun j => rnC rnP0 (rnB0 (UInt8.ofNat (97 + 7)) (UInt8.ofNat (97 + j)))) rn_0_7)
 ·
  exact rnC_ok (key (fun j => rnC rnP0 (rnB0 (UInt8.ofNat (97 + 8)) (UInt8.ofNat (97 + j)))) rn_0_8)
 ·
  exact rnC_ok (key (fun j => rnC rnP0 (rnB0 (UInt8.ofNat (97 + 9)) (UInt8.ofNat (97 + j)))) rn_0_9)
 ·
  exact rnC_ok (key (fun j => rnC rnP0 (rnB0 (UInt8.ofNat (97 + 10)) (UInt8.ofNat (97 + j)))) rn_0_10)
 ·
  exact rnC_ok (key (fun j => rnC rnP0 (rnB0 (UInt8.ofNat (97 + 11)) (UInt8.ofNat (97 + j)))) rn_0_11)
 ·
  exact rnC_ok (key (fun j => rnC rnP0 (rnB0 (UInt8.ofNat (97 + 12)) (UInt8.ofNat (97 + j)))) rn_0_12)
 ·
  exact rnC_ok (key (fun j => rnC rnP0 (rnB0 (UInt8.ofNat (97 + 13)) (UInt8.ofNat (97 + j)))) rn_0_13)
 ·
  exact rnC_ok (key (fun j => rnC rnP0 (rnB0 (UInt8.ofNat (97 + 14)) (UInt8.ofNat (97 + j)))) rn_0_14)
 ·
  exact rnC_ok (key (fun j => rnC rnP0 (rnB0 (UInt8.ofNat (97 + 15)) (UInt8.ofNat (97 + j)))) rn_0_15)
 ·
  exact rnC_ok (key (fun j => rnC rnP0 (rnB0 (UInt8.ofNat (97 + 16)) (UInt8.ofNat (97 + j)))) rn_0_16)
 ·
  exact rnC_ok (key (fun j => rnC rnP0 (rnB0 (UInt8.ofNat (97 + 17)) (UInt8.ofNat (97 + j)))) rn_0_17)
 ·
  exact rnC_ok (key (fun j => rnC rnP0 (rnB0 (UInt8.ofNat (97 + 18)) (UInt8.ofNat (97 + j)))) rn_0_18)
 ·
  exact rnC_ok (key (fun j => rnC rnP0 (rnB0 (UInt8.ofNat (97 + 19)) (UInt8.ofNat (97 + j)))) rn_0_19)
 ·
  exact rnC_ok (key (fun j => rnC rnP0 (rnB0 (UInt8.ofNat (97 + 20)) (UInt8.ofNat (97 + j)))) rn_0_20)
 ·
  exact rnC_ok (key (fun j => rnC rnP0 (rnB0 (UInt8.ofNat (97 + 21)) (UInt8.ofNat (97 + j)))) rn_0_21)
 ·
  exact rnC_ok (key (fun j => rnC rnP0 (rnB0 (UInt8.ofNat (97 + 22)) (UInt8.ofNat (97 + j)))) rn_0_22)
 ·
  exact rnC_ok (key (fun j => rnC rnP0 (rnB0 (UInt8.ofNat (97 + 23)) (UInt8.ofNat (97 + j)))) rn_0_23)
 ·
  exact rnC_ok (key (fun j => rnC rnP0 (rnB0 (UInt8.ofNat (97 + 24)) (UInt8.ofNat (97 + j)))) rn_0_24)
 ·
  exact rnC_ok (key (fun j => rnC rnP0 (rnB0 (UInt8.ofNat (97 + 25)) (UInt8.ofNat (97 + j)))) rn_0_25)
theorem rn_p0 : parseF rnA0 = .ok [rnP0] ∧ RlSz rnP0 ∧ RlI rnP0 := by
 have h := rn_a0.2
 rw [Bool.and_eq_true] at h
 exact ⟨rnC_ok rn_a0.1, szB_ok h.1, riB_ok h.2⟩
end Go.Proofs.Ytblkgjdhaibhgaa
