/-
  Lemmas and walks that the claim rests on, part 11 (packed by a program).
-/
import Derived.Test.YtblkgjdhaibhgaaZ2
import Derived.Test.YtblkgjdhaibhgaaZ1
namespace Go.Proofs.Ytblkgjdhaibhgaa
open Go.RowKit
theorem isVal_lo {ss : List Int} {n : Int} (h : ¬ 1 ≤ n) : isValF ss n = false := decide_eq_false (fun q => h q.1)
theorem isVal_hi {ss : List Int} {n : Int} (h : ¬ n < ss.length) : isValF ss n = false := decide_eq_false (fun q => h q.2.1)
theorem isVal_at {ss : List Int} {j : Nat} (h : 1 ≤ (j : Int)) (g : (j : Int) < ss.length) : isValF ss j = (ss.getD j 0 == 1) := by
 unfold isValF
 rw [Bool.eq_iff_iff]
 simp only [Int.toNat_natCast, decide_eq_true_eq, beq_iff_eq]
 exact ⟨fun q => q.2.2, fun q => ⟨h, g, q⟩⟩
set_option maxRecDepth 100000 in
set_option maxHeartbeats 4000000 in
theorem r15validCond_c (x : Cd) (ss : List Int) (m : Int) (A : Option Addr) (c : Nat) (F : Nat → Prop) (w : World) (hs : Ints w F A ss) :
  Calls Try.prog 33 #[.agg #[.int .i64 x.kind, .int .i64 x.a, .int .i64 x.b, .int .i64 x.n], .slice A ss.length c, .int .i64 m] w fun e w' => e = .returned (.bool (condF x ss m)) ∧ Upd Non w w' := by
 obtain ⟨k, a, b, n⟩ := x
 dsimp only
 obtain ⟨W, HW⟩ := nm (w.alloc (.cells #[.int .i64 k, .int .i64 a, .int .i64 b, .int .i64 n] 66))
 have U : Upd Non w W := by rw [← HW.out]; exact Upd.refl.alloc _
 have b1 : Blk W w.heap.size 66 #[.int .i64 k, .int .i64 a, .int .i64 b, .int .i64 n] := by rw [← HW.out]; exact Blk.new _ _ _
 have e1 := HW.out
 have hs := hs.upd U (fun _ _ _ f => f)
 have c0 := b1.cell 0
 have c1 := b1.cell 1
 have c2 := b1.cell 2
 have c3 := b1.cell 3
 have HVL := Lib.hid (fun (i : Int) => @isVal_lo ss i)
 have HVH := Lib.hid (fun (i : Int) => @isVal_hi ss i)
 have HVA := Lib.hid (fun (j : Nat) => @isVal_at ss j)
 obtain ⟨l, Hl⟩ := nm ss.length
 obtain ⟨R, HR⟩ := nm (condF ⟨k, a, b, n⟩ ss m)
 rw [HR.out, Hl.out]
 have HR1 : Hid (R = condF ⟨k, a, b, n⟩ ss m) := HR.out.symm
 unfold condF at HR1
 dsimp only at HR1
 obtain ⟨va, Hva⟩ := nm (isValF ss a)
 obtain ⟨vb, Hvb⟩ := nm (isValF ss b)
 rw [Hva.out, Hvb.out] at HR1
 clear b1 HR
 obtain ⟨tb, ftb⟩ : ∃ t, (b == 0) = t := ⟨_, rfl⟩
 obtain ⟨tn, ftn⟩ : ∃ t, (n == 0) = t := ⟨_, rfl⟩
 obtain ⟨tab, ftab⟩ : ∃ t, (b != a) = t := ⟨_, rfl⟩
 obtain ⟨tab2, ftab2⟩ : ∃ t, (a != b) = t := ⟨_, rfl⟩
 obtain ⟨b1, fb1⟩ : ∃ t, decide (1 ≤ b) = t := ⟨_, rfl⟩
 obtain ⟨bm, fbm⟩ : ∃ t, decide (b ≤ m) = t := ⟨_, rfl⟩
 obtain ⟨a1, fa1⟩ : ∃ t, decide (1 ≤ a) = t := ⟨_, rfl⟩
 obtain ⟨am, fam⟩ : ∃ t, decide (a ≤ m) = t := ⟨_, rfl⟩
 obtain ⟨bl, fbl⟩ : ∃ t, decide (b < (l : Int)) = t := ⟨_, rfl⟩
 obtain ⟨al, fal⟩ : ∃ t, decide (a < (l : Int)) = t := ⟨_, rfl⟩
 have gtb : decide (b = 0) = tb := by rw [← ftb, Bool.eq_iff_iff]; simp
 have gtn : decide (n = 0) = tn := by rw [← ftn, Bool.eq_iff_iff]; simp
 have gtab : decide (a ≠ b) = tab2 := by rw [← ftab2, Bool.eq_iff_iff]; simp
 have gtab2 : tab2 = tab := by rw [← ftab, ← ftab2, Bool.eq_iff_iff]; simp; exact ⟨fun h q => h q.symm, fun h q => h q.symm⟩
 have gia : isImmF m a = (a1 && am) := by unfold isImmF; rw [← fa1, ← fam, Bool.eq_iff_iff]; simp
 have gib : isImmF m b = (b1 && bm) := by unfold isImmF; rw [← fb1, ← fbm, Bool.eq_iff_iff]; simp
 rw [gtb, gtn, gtab, gtab2, gia, gib] at HR1
 rw [gtab2] at ftab2
 have FA1 := Lib.hid fa1
 have FAL := Lib.hid fal
 have FB1 := Lib.hid fb1
 have FBL := Lib.hid fbl
 clear gtb gtn gtab gia gib gtab2
 go_enter Try.func33, Try.ntmps33
 go_upto_region 1 with fail
 go_cut [7] (fun t wx => t = .bool va ∧ W = wx)
 case first =>
  cases a1 with
  | false =>
   have hv : va = false := by rw [← Hva.out]; exact HVL.out a (of_decide_eq_false FA1.out)
   subst hv
   go_wp2_with fail
   go_meet
   exact ⟨rfl, rfl⟩
  | true =>
   cases al with
   | false =>
    have hv : va = false := by rw [← Hva.out]; exact HVH.out a (by rw [Hl.out]; exact of_decide_eq_false FAL.out)
    subst hv
    go_wp2_with fail
    go_meet
    exact ⟨rfl, rfl⟩
   | true =>
    obtain ⟨j, rfl⟩ : ∃ j : Nat, a = (j : Int) := Int.eq_ofNat_of_zero_le (by have := of_decide_eq_true FA1.out; omega)
    have hj : (j : Int) < l := of_decide_eq_true FAL.out
    have hj0 : (0 : Int) ≤ j := by omega
    have hv : va = (ss.getD j 0 == 1) := by rw [← Hva.out]; exact HVA.out j (of_decide_eq_true FA1.out) (by rw [Hl.out]; exact hj)
    obtain ⟨blk, off, rfl, _, _, z⟩ := Sl.at_ (k := j) hs (by simp [Hl.out]; omega)
    rw [show ((ss.map fun (x : Int) => Value.int .i64 x))[j]'(by simp [Hl.out]; omega) = .int .i64 (ss.getD j 0) by simp [List.getD, show j < ss.length by rw [Hl.out]; omega]] at z
    obtain ⟨y, Hy⟩ := nm (ss.getD j 0)
    rw [Hy.out] at z hv
    have fv : (y == 1) = va := hv.symm
    clear hv
    go_wp2_with fail
    go_meet
    exact ⟨rfl, rfl⟩
 case rest =>
  obtain ⟨rfl, ew⟩ := hcut
  obtain rfl : W = _ := ew
  by_cases h1 : k = 1
  ·
   subst h1
   have HE0 : Hid (R = (va && (tb && tn))) := by show _ = _; rw [HR1.out, if_pos rfl, Bool.and_assoc]
   cases va with
   | false =>
    have HE : Hid (R = false) := by show _ = _; rw [HE0.out]; simp
    go_wp2_with fail
    go_ret
    exact ⟨by rw [HE.out]; rfl, U⟩
   | true =>
    have HE0 : Hid (R = (tb && tn)) := by show _ = _; rw [HE0.out]; simp
    cases tb with
    | false =>
     have HE : Hid (R = false) := by show _ = _; rw [HE0.out]; simp
     go_wp2_with fail
     go_ret
     exact ⟨by rw [HE.out]; rfl, U⟩
    | true =>
     have HE0 : Hid (R = (tn)) := by show _ = _; rw [HE0.out]; simp
     have HE : Hid (R = tn) := HE0.out
     go_wp2_with fail
     go_ret
     exact ⟨by rw [HE.out]; rfl, U⟩
  ·
   by_cases h2 : k = 2 ∨ k = 3
   ·
    have HE0 : Hid (R = (va && tb)) := by have := HR1.out; rw [if_neg h1, if_pos h2] at this; exact this
    rcases h2 with rfl | rfl
    ·
     cases va with
     | false =>
      have HE : Hid (R = false) := by show _ = _; rw [HE0.out]; simp
      go_wp2_with fail
      go_ret
      exact ⟨by rw [HE.out]; rfl, U⟩
     | true =>
      have HE0 : Hid (R = (tb)) := by show _ = _; rw [HE0.out]; simp
      have HE : Hid (R = tb) := HE0.out
      go_wp2_with fail
      go_ret
      exact ⟨by rw [HE.out]; rfl, U⟩
    ·
     cases va with
     | false =>
      have HE : Hid (R = false) := by show _ = _; rw [HE0.out]; simp
      go_wp2_with fail
      go_ret
      exact ⟨by rw [HE.out]; rfl, U⟩
     | true =>
      have HE0 : Hid (R = (tb)) := by show _ = _; rw [HE0.out]; simp
      have HE : Hid (R = tb) := HE0.out
      go_wp2_with fail
      go_ret
      exact ⟨by rw [HE.out]; rfl, U⟩
   ·
    have HR2 := HR1.out
    rw [if_neg h1, if_neg h2] at HR2
    have t1 : (k == 1) = false := by simpa using h1
    have t2 : (k == 2) = false := by simp; omega
    have t3 : (k == 3) = false := by simp; omega
    have HR1 := Lib.hid HR2
    clear HR2 h1 h2
    by_cases h4 : k = 4
    ·
     subst h4
     have HE0 : Hid (R = (va && (vb && (tab && tn)))) := by show _ = _; rw [HR1.out, if_pos rfl]; simp [Bool.and_assoc]
     cases va with
     | false =>
      have HE : Hid (R = false) := by show _ = _; rw [HE0.out]; simp
      go_wp2_with fail
      go_ret
      exact ⟨by rw [HE.out]; rfl, U⟩
     | true =>
      have HE0 : Hid (R = (vb && (tab && tn))) := by show _ = _; rw [HE0.out]; simp
      cases b1 with
      | false =>
       have hv : vb = false := by rw [← Hvb.out]; exact HVL.out b (of_decide_eq_false FB1.out)
       have HE : Hid (R = false) := by show _ = _; rw [HE0.out, hv]; simp
       clear hv
       go_wp2_with fail
       go_ret
       exact ⟨by rw [HE.out]; rfl, U⟩
      | true =>
       cases bl with
       | false =>
        have hv : vb = false := by rw [← Hvb.out]; exact HVH.out b (by rw [Hl.out]; exact of_decide_eq_false FBL.out)
        have HE : Hid (R = false) := by show _ = _; rw [HE0.out, hv]; simp
        clear hv
        go_wp2_with fail
        go_ret
        exact ⟨by rw [HE.out]; rfl, U⟩
       | true =>
        obtain ⟨j, rfl⟩ : ∃ j : Nat, b = (j : Int) := Int.eq_ofNat_of_zero_le (by have := of_decide_eq_true FB1.out; omega)
        have hj : (j : Int) < l := of_decide_eq_true FBL.out
        have hj0 : (0 : Int) ≤ j := by omega
        have hv : vb = (ss.getD j 0 == 1) := by rw [← Hvb.out]; exact HVA.out j (of_decide_eq_true FB1.out) (by rw [Hl.out]; exact hj)
        obtain ⟨blk, off, rfl, _, _, z⟩ := Sl.at_ (k := j) hs (by simp [Hl.out]; omega)
        rw [show ((ss.map fun (x : Int) => Value.int .i64 x))[j]'(by simp [Hl.out]; omega) = .int .i64 (ss.getD j 0) by simp [List.getD, show j < ss.length by rw [Hl.out]; omega]] at z
        obtain ⟨y, Hy⟩ := nm (ss.getD j 0)
        rw [Hy.out] at z hv
        have fv : (y == 1) = vb := hv.symm
        clear hv
        cases vb with
        | false =>
         have HE : Hid (R = false) := by show _ = _; rw [HE0.out]; simp
         go_wp2_with fail
         go_ret
         exact ⟨by rw [HE.out]; rfl, U⟩
        | true =>
         have HE0 : Hid (R = (tab && tn)) := by show _ = _; rw [HE0.out]; simp
         cases tab with
         | false =>
          have HE : Hid (R = false) := by show _ = _; rw [HE0.out]; simp
          go_wp2_with fail
          go_ret
          exact ⟨by rw [HE.out]; rfl, U⟩
         | true =>
          have HE0 : Hid (R = (tn)) := by show _ = _; rw [HE0.out]; simp
          have HE : Hid (R = tn) := HE0.out
          go_wp2_with fail
          go_ret
          exact ⟨by rw [HE.out]; rfl, U⟩
    ·
     have t4 : (k == 4) = false := by simpa using h4
     have HR2 := HR1.out
     rw [if_neg h4] at HR2
     have HR1 := Lib.hid HR2
     clear HR2 h4
     by_cases h5 : k = 5
     ·
      subst h5
      have HE0 : Hid (R = (va && (b1 && (bm && tn)))) := by show _ = _; rw [HR1.out, if_pos rfl]; simp [Bool.and_assoc]
      cases va with
      | false =>
       have HE : Hid (R = false) := by show _ = _; rw [HE0.out]; simp
       go_wp2_with fail
       go_ret
       exact ⟨by rw [HE.out]; rfl, U⟩
      | true =>
       have HE0 : Hid (R = (b1 && (bm && tn))) := by show _ = _; rw [HE0.out]; simp
       cases b1 with
       | false =>
        have HE : Hid (R = false) := by show _ = _; rw [HE0.out]; simp
        go_wp2_with fail
        go_ret
        exact ⟨by rw [HE.out]; rfl, U⟩
       | true =>
        have HE0 : Hid (R = (bm && tn)) := by show _ = _; rw [HE0.out]; simp
        cases bm with
        | false =>
         have HE : Hid (R = false) := by show _ = _; rw [HE0.out]; simp
         go_wp2_with fail
         go_ret
         exact ⟨by rw [HE.out]; rfl, U⟩
        | true =>
         have HE0 : Hid (R = (tn)) := by show _ = _; rw [HE0.out]; simp
         have HE : Hid (R = tn) := HE0.out
         go_wp2_with fail
         go_ret
         exact ⟨by rw [HE.out]; rfl, U⟩
     ·
      have t5 : (k == 5) = false := by simpa using h5
      have HR2 := HR1.out
      rw [if_neg h5] at HR2
      have HR1 := Lib.hid HR2
      clear HR2 h5
      by_cases h6 : k = 6
      ·
       subst h6
       have HE0 : Hid (R = (a1 && (am && (b1 && (bm && (tab && tn)))))) := by show _ = _; rw [HR1.out, if_pos rfl]; simp [Bool.and_assoc]
       cases a1 with
       | false =>
        have HE : Hid (R = false) := by show _ = _; rw [HE0.out]; simp
        go_wp2_with fail
        go_ret
        exact ⟨by rw [HE.out]; rfl, U⟩
       | true =>
        have HE0 : Hid (R = (am && (b1 && (bm && (tab && tn))))) := by show _ = _; rw [HE0.out]; simp
        cases am with
        | false =>
         have HE : Hid (R = false) := by show _ = _; rw [HE0.out]; simp
         go_wp2_with fail
         go_ret
         exact ⟨by rw [HE.out]; rfl, U⟩
        | true =>
         have HE0 : Hid (R = (b1 && (bm && (tab && tn)))) := by show _ = _; rw [HE0.out]; simp
         cases b1 with
         | false =>
          have HE : Hid (R = false) := by show _ = _; rw [HE0.out]; simp
          go_wp2_with fail
          go_ret
          exact ⟨by rw [HE.out]; rfl, U⟩
         | true =>
          have HE0 : Hid (R = (bm && (tab && tn))) := by show _ = _; rw [HE0.out]; simp
          cases bm with
          | false =>
           have HE : Hid (R = false) := by show _ = _; rw [HE0.out]; simp
           go_wp2_with fail
           go_ret
           exact ⟨by rw [HE.out]; rfl, U⟩
          | true =>
           have HE0 : Hid (R = (tab && tn)) := by show _ = _; rw [HE0.out]; simp
           cases tab with
           | false =>
            have HE : Hid (R = false) := by show _ = _; rw [HE0.out]; simp
            go_wp2_with fail
            go_ret
            exact ⟨by rw [HE.out]; rfl, U⟩
           | true =>
            have HE0 : Hid (R = (tn)) := by show _ = _; rw [HE0.out]; simp
            have HE : Hid (R = tn) := HE0.out
            go_wp2_with fail
            go_ret
            exact ⟨by rw [HE.out]; rfl, U⟩
      ·
       have t6 : (k == 6) = false := by simpa using h6
       have HE : Hid (R = false) := by show _ = _; rw [HR1.out, if_neg h6]
       clear h6
       go_wp2_with fail
       go_ret
       exact ⟨by rw [HE.out]; rfl, U⟩
end Go.Proofs.Ytblkgjdhaibhgaa
namespace Go.Proofs.Ytblkgjdhaibhgaa
open Go.RowKit
set_option maxHeartbeats 1000000 in
theorem r15Size_c (p : Pt) : ∀ (w : World) (F : Nat → Prop) (KA : Option Addr) (kc : Nat), PtK w F p KA kc → p.size ≤ 1000000000000 →
  Calls Try.prog 29 #[pv p KA kc] w fun e w' => e = .returned (.int .i64 (p.size : Int)) ∧ Upd Non w w' := by
 induction p using Pt.ind with
 | h p ih =>
  intro w F KA kc hp hs
  have hse := Pt.size_eq p
  have hle := Pt.len_le p.kids
  have HI := Lib.hid ih
  obtain ⟨W, HW⟩ := nm (w.alloc (.cells #[.int .i64 p.v, .int .i64 p.op, .int .i64 p.imm, .int .i64 p.iv, .slice KA p.kids.length kc] 30))
  have hU : Upd Non w W := by rw [← HW.out]; exact Upd.refl.alloc _
  have hb : Blk W w.heap.size 30 #[.int .i64 p.v, .int .i64 p.op, .int .i64 p.imm, .int .i64 p.iv, .slice KA p.kids.length kc] := by rw [← HW.out]; exact Blk.new _ _ _
  have e0 := HW.out
  have c4 := hb.cell 4
  have hpW := PtK.upd hU (fun _ _ _ f => f) p KA kc hp
  have HS := Lib.hid hse
  unfold pv
  clear ih hse hp
  obtain ⟨n, Hn⟩ := nm p.kids.length
  rw [Hn.out] at c4 hle e0
  have hn12 : n ≤ 1000000000000 := by have := HS.out; omega
  rw [Hn.out]
  go_enter Try.func29, Try.ntmps29
  go_wp2_with fail
  go_loopg [3, 4] n (fun g v i wr => ∃ k : Nat, Hid (g = n - k) ∧ k ≤ n ∧ i = .int .i64 k ∧ v = .int .i64 ((1 + Pt.sizeL (p.kids.take k) : Nat) : Int) ∧ Upd Non W wr)
  case atStart => exact ⟨0, rfl, by omega, rfl, by simp [Pt.sizeL], Upd.refl⟩
  case round =>
   obtain ⟨k, Hg, hk, rfl, rfl, hu⟩ := hrel
   have c4' := cell_upd c4 hu (fun f => f)
   by_cases hlt : k < n
   ·
    have hkl : k < p.kids.length := by rw [Hn.out]; exact hlt
    obtain ⟨b, o, rfl, hF, hbw, KB, kd, h0, h1, h2, h3, h4, h5⟩ := (PtK.upd hu (fun _ _ _ f => f) p KA kc hpW).at_ hkl
    have hks : p.kids[k].size ≤ 1000000000000 := by have := Pt.kids_lt (List.getElem_mem hkl); omega
    have hkk := Pt.sizeL_take p.kids k hkl
    have hkt := Pt.sizeL_take_le p.kids (k + 1)
    have hmem0 := List.getElem_mem hkl
    generalize p.kids[k] = q at *
    have C1 := Lib.hid (HI.out q hmem0 wr F KB kd h5 hks)
    unfold pv at C1
    obtain ⟨z, Hz⟩ := nm (1 + Pt.sizeL (p.kids.take k))
    have hz1 : 1 + Pt.sizeL (p.kids.take (k + 1)) = z + q.size := by rw [← Hz.out]; omega
    have HZ := Lib.hid hz1
    have hz2 : z + q.size ≤ 2000000000000 := by have := HS.out; omega
    rw [Hz.out]
    clear hkk hkt hz1 h5
    go_wp2_with fail
    refine C1.out.mono ?_
    rintro e w4 ⟨rfl, hu4⟩
    go_wp2_with fail
    go_roundg (n - (k + 1))
    case measure => rw [Hg.out]; omega
    case rel => exact ⟨k + 1, rfl, by omega, by go_num, by rw [HZ.out]; go_num, hu.then_non hu4⟩
   ·
    obtain rfl : n = k := by omega
    have HT : Hid (1 + Pt.sizeL (p.kids.take n) = p.size) := by show _ = _; rw [HS.out, ← Hn.out]; simp
    rw [HT.out]
    go_wp2_with fail
    go_ret
    exact ⟨rfl, hU.then_non hu⟩
set_option maxRecDepth 100000 in
set_option maxHeartbeats 8000000 in
theorem r15fits_c (p : Pt) : ∀ (w : World) (F : Nat → Prop) (KA : Option Addr) (kc g c : Nat) (s m : Int) (vs : List Int), PtK w F p KA kc → ¬ F g → VBlk w g (0 :: vs) → p.size ≤ 1000000000000 → vs.length ≤ 1000000 → 0 ≤ m →
  Calls Try.prog 30 #[pv p KA kc, .int .i64 s, .slice (some ⟨g, 0, none⟩) (vs.length + 1) c, .int .i64 m] w fun e w' => e = .returned (.bool (vPt p s m vs).1) ∧ VBlk w' g (0 :: (vPt p s m vs).2) ∧ Upd (· = g) w w' := by
 induction p using Pt.ind with
 | h p ih =>
  intro w F KA kc g c s m vs hp hFg hg hs hvs hm0
  have hle := Pt.len_le p.kids
  have hse := Pt.size_eq p
  have HI := Lib.hid ih
  have HPS := Lib.hid hs
  have HV := Lib.hid (@vPt_var p)
  have HO := Lib.hid (@vPt_op p)
  obtain ⟨W, HW⟩ := nm (w.alloc (.cells #[.int .i64 p.v, .int .i64 p.op, .int .i64 p.imm, .int .i64 p.iv, .slice KA p.kids.length kc] 30))
  have hU : Upd Non w W := by rw [← HW.out]; exact Upd.refl.alloc _
  have hb : Blk W w.heap.size 30 #[.int .i64 p.v, .int .i64 p.op, .int .i64 p.imm, .int .i64 p.iv, .slice KA p.kids.length kc] := by rw [← HW.out]; exact Blk.new _ _ _
  have e0 := HW.out
  have hgW : VBlk W g (0 :: vs) := Blk.upd hg hU (fun f => f)
  have hpW := PtK.upd hU (fun _ _ _ f => f) p KA kc hp
  have hUg : Upd (· = g) w W := hU.mono (fun _ _ f => f.elim)
  have hglt : g < w.heap.size := Blk.lt hg
  have hsz := hU.size
  have hn12 : p.kids.length ≤ 1000000000000 := by omega
  unfold pv
  obtain ⟨R, HR⟩ := nm (vPt p s m vs)
  rw [HR.out]
  have HIM := Lib.hid (@imm_ok p m hm0)
  obtain ⟨v, Hv⟩ := nm p.v
  obtain ⟨op, Hop⟩ := nm p.op
  obtain ⟨imm, Him⟩ := nm p.imm
  obtain ⟨iv, Hiv⟩ := nm p.iv
  obtain ⟨n, Hn⟩ := nm p.kids.length
  rw [Hv.out, Hop.out, Him.out, Hiv.out, Hn.out] at hb e0
  rw [Hv.out, Hop.out, Him.out, Hiv.out, Hn.out]
  rw [Hn.out] at hn12
  rw [Hop.out, Him.out, Hiv.out] at HIM
  have c0 := hb.cell 0
  have c1 := hb.cell 1
  have c2 := hb.cell 2
  have c3 := hb.cell 3
  have c4 := hb.cell 4
  have hlb := hb.lt
  clear ih hp hse hle hg hs
  by_cases hv : v = 0
  ·
   subst hv
   obtain ⟨z, Hz⟩ : ∃ z, oSortsF op = z := ⟨_, rfl⟩
   obtain ⟨ss, own, ok⟩ := z
   have HO2 : Hid (R = if ok = true ∧ n = ss.length ∧ (s = 0 ∨ s = own) ∧ pImmF p m = true then vKids p.kids ss m vs else (false, vs)) := by
    show _ = _
    rw [← HR.out, HO.out Hv.out, Hop.out, Hz, Hn.out]
   have HAO := Lib.hid (allowed_ok op)
   have HAP := Lib.hid (@allowed_parts op)
   have CA := Lib.hid (fun w => arity_c op w)
   have CB := Lib.hid (fun w => r15allowed_c op w)
   have CS := Lib.hid (fun w => pSort_c op w)
   have CH := Lib.hid (fun w => r15HasImm_c op w)
   have CV := Lib.hid (fun w => validImm_c op imm w)
   have COS := Lib.hid (fun (k : Int) w => operandSort_c op k w)
   rw [HAO.out] at CB
   rw [Hz] at CB HAP HIM
   dsimp only at CB HAP HIM
   obtain ⟨za, Hza⟩ : ∃ z, arityF op = z := ⟨_, rfl⟩
   obtain ⟨ar, aok⟩ := za
   rw [Hza] at CA HAP
   dsimp only at CA HAP
   obtain ⟨sr, Hsr⟩ := nm (pSortF op)
   rw [Hsr.out] at CS HAP
   obtain ⟨hi, Hhi⟩ := nm (hasImmF op)
   obtain ⟨vi, Hvi⟩ := nm (validImmF op imm)
   rw [Hhi.out] at CH
   rw [Hvi.out] at CV
   rw [Hhi.out, Hvi.out] at HIM
   clear HV HO HR Hz Hza
   obtain ⟨bn, f1⟩ : ∃ b, ((n : Int) != ar) = b := ⟨_, rfl⟩
   obtain ⟨b3, f3⟩ : ∃ b, (s != 0) = b := ⟨_, rfl⟩
   obtain ⟨bs, f4⟩ : ∃ b, (sr != s) = b := ⟨_, rfl⟩
   obtain ⟨b5, f5⟩ : ∃ b, decide (iv < 0) = b := ⟨_, rfl⟩
   obtain ⟨b6, f6⟩ : ∃ b, decide (iv > m) = b := ⟨_, rfl⟩
   obtain ⟨b7, f7⟩ : ∃ b, decide (iv > 0) = b := ⟨_, rfl⟩
   obtain ⟨b8, f8⟩ : ∃ b, (imm != 0) = b := ⟨_, rfl⟩
   obtain ⟨b9, f9⟩ : ∃ b, (iv == 0) = b := ⟨_, rfl⟩
   have F1 := Lib.hid f1
   have F3 := Lib.hid f3
   have F4 := Lib.hid f4
   have F5 := Lib.hid f5
   have F6 := Lib.hid f6
   have F7 := Lib.hid f7
   have F8 := Lib.hid f8
   have F9 := Lib.hid f9
   go_enter Try.func30, Try.ntmps30
   go_wp2_with fail
   refine (CA.out W).mono ?_
   rintro e w2 ⟨rfl, rfl⟩
   go_upto_region 8 with fail
   go_cut [110] (fun t wx => t = .bool (!ok || bn || (b3 && bs) || b5 || b6) ∧ wx = W)
   case first =>
    cases ok with
    | false =>
     go_wp2_with fail
     refine (CB.out W).mono ?_
     rintro e w2 ⟨rfl, rfl⟩
     go_wp2_with fail
     go_meet
     exact ⟨rfl, rfl⟩
    | true => cases bn with
     | true =>
      go_wp2_with fail
      refine (CB.out W).mono ?_
      rintro e w2 ⟨rfl, rfl⟩
      go_wp2_with fail
      go_meet
      exact ⟨rfl, rfl⟩
     | false => cases b3 with
      | true => cases bs with
       | true =>
        go_wp2_with fail
        refine (CB.out W).mono ?_
        rintro e w2 ⟨rfl, rfl⟩
        go_wp2_with fail
        refine (CS.out W).mono ?_
        rintro e w2 ⟨rfl, rfl⟩
        go_wp2_with fail
        go_meet
        exact ⟨rfl, rfl⟩
       | false =>
        cases b5 <;> cases b6
        all_goals
         go_wp2_with fail
         refine (CB.out W).mono ?_
         rintro e w2 ⟨rfl, rfl⟩
         go_wp2_with fail
         refine (CS.out W).mono ?_
         rintro e w2 ⟨rfl, rfl⟩
         go_wp2_with fail
         go_meet
         exact ⟨rfl, rfl⟩
      | false =>
       cases b5 <;> cases b6
       all_goals
        go_wp2_with fail
        refine (CB.out W).mono ?_
        rintro e w2 ⟨rfl, rfl⟩
        go_wp2_with fail
        go_meet
        exact ⟨by cases bs <;> rfl, rfl⟩
   case rest =>
   obtain ⟨rfl, ew⟩ := hcut
   obtain rfl : W = _ := ew.symm
   have HCond : Hid ((ok = true ∧ n = ss.length ∧ (s = 0 ∨ s = own) ∧ pImmF p m = true) ↔ ((!ok || bn || (b3 && bs) || b5 || b6) = false ∧ (b7 && (b8 || !hi) || b9 && !vi) = false)) := by
    show _ ↔ _
    rw [← F1.out, ← F3.out, ← F4.out, ← F5.out, ← F6.out, ← F7.out, ← F8.out, ← F9.out]
    cases ok with
    | false => simp
    | true =>
     obtain ⟨a1, a2, _⟩ := HAP.out rfl
     rw [HIM.out rfl, a1, a2]
     cases hi <;> cases vi <;> simp <;> omega
   cases hT : (!ok || bn || (b3 && bs) || b5 || b6) with
   | true =>
    have HR2 : Hid (R = (false, vs)) := by show _ = _; rw [HO2.out, if_neg (fun q => by rw [(HCond.out.1 q).1] at hT; cases hT)]
    clear HO2 hT
    go_wp2_with fail
    go_ret
    exact ⟨by rw [HR2.out]; rfl, by rw [HR2.out]; exact hgW, hUg⟩
   | false =>
    have HT := Lib.hid hT
    clear hT
    go_upto_region 10 with fail
    go_cut [137] (fun t wx => t = .bool (b7 && (b8 || !hi) || b9 && !vi) ∧ wx = W)
    case first =>
     cases b7 with
     | true =>
      have b9f : b9 = false := by rw [← F9.out, beq_eq_false_iff_ne]; have := of_decide_eq_true F7.out; omega
      subst b9f
      cases b8 with
      | true =>
       go_wp2_with fail
       go_meet
       exact ⟨rfl, rfl⟩
      | false =>
       cases hi
       all_goals
        go_wp2_with fail
        refine (CH.out W).mono ?_
        rintro e w2 ⟨rfl, rfl⟩
        go_wp2_with fail
        go_meet
        exact ⟨rfl, rfl⟩
     | false => cases b9 with
      | true =>
       go_wp2_with fail
       refine (CV.out W).mono ?_
       rintro e w2 ⟨rfl, rfl⟩
       go_wp2_with fail
       go_meet
       exact ⟨by cases vi <;> rfl, rfl⟩
      | false =>
       go_wp2_with fail
       go_meet
       exact ⟨rfl, rfl⟩
    case rest =>
    obtain ⟨rfl, ew⟩ := hcut
    obtain rfl : W = _ := ew.symm
    cases hT2 : (b7 && (b8 || !hi) || b9 && !vi) with
    | true =>
     have HR2 : Hid (R = (false, vs)) := by show _ = _; rw [HO2.out, if_neg (fun q => by rw [(HCond.out.1 q).2] at hT2; cases hT2)]
     clear HO2 hT2
     go_wp2_with fail
     go_ret
     exact ⟨by rw [HR2.out]; rfl, by rw [HR2.out]; exact hgW, hUg⟩
    | false =>
     have HCd := Lib.hid (HCond.out.2 ⟨HT.out, hT2⟩)
     have HR2 : Hid (R = vKids (p.kids.drop 0) (ss.drop 0) m vs) := by show _ = _; rw [HO2.out, if_pos HCd.out]; simp
     have HNS : Hid (n = ss.length) := HCd.out.2.1
     have HST := Lib.hid (fun k (hk : k < p.kids.length) vk => @vKids_step p.kids ss m vk k hk (by rw [Hn.out]; exact HNS.out))
     have HVL := Lib.hid (fun (q : Pt) (s m : Int) vs => vPt_len q s m vs)
     have HSO : Hid (∀ k (hk : k < ss.length), operandSortF op k = ss[k]) := (HAP.out HCd.out.1).2.2
     clear HO2 hT2 HCond f1 f3 f4 f5 f6 f7 f8 f9 CA CB CS CH CV
     go_wp2_with fail
     go_loopg [11] n (fun gg i wr => ∃ (k : Nat) (vk : List Int), Hid (gg = n - k) ∧ k ≤ n ∧ i = .int .i64 k ∧ VBlk wr g (0 :: vk) ∧ vk.length = vs.length ∧ Hid (R = vKids (p.kids.drop k) (ss.drop k) m vk) ∧ Upd (· = g) W wr)
     case atStart => exact ⟨0, vs, rfl, by omega, rfl, hgW, rfl, HR2, Upd.refl⟩
     case round =>
      obtain ⟨k, vk, Hg, hk, rfl, hgk, hvk, HRk, hu⟩ := hrel
      have c4r : wr.cell? ⟨w.heap.size, 4, none⟩ = some (.slice KA n kc) := cell_upd c4 hu (by omega)
      have c1r : wr.cell? ⟨w.heap.size, 1, none⟩ = some (.int .i64 op) := cell_upd c1 hu (by omega)
      by_cases hlt : k < n
      ·
       have hkl : k < p.kids.length := by rw [Hn.out]; exact hlt
       have hks : k < ss.length := by have := HNS.out; omega
       obtain ⟨b, o, rfl, hF, hbw, KB, kd, h0, h1, h2, h3, h4, h5⟩ := (PtK.upd hu (fun k _ hF e => hFg (by rw [← e]; exact hF)) p KA kc hpW).at_ hkl
       have hmem0 := List.getElem_mem hkl
       have hqs := Pt.kids_lt hmem0
       have HRs := HST.out k hkl vk
       have hps : p.size ≤ 1000000000000 := HPS.out
       have hos := HSO.out k hks
       have hbg : b ≠ g := fun e => hFg (by rw [← e]; exact hF)
       rw [HRs] at HRk
       clear HRs
       generalize p.kids[k] = q at *
       generalize ss[k] = x at *
       have i0 : (0 : Int) ≤ (k : Int) := by omega
       have i1 : (k : Int) < (n : Int) := by omega
       have hg4 : VBlk wr.drew g (0 :: vk) := hgk
       have C1 := Lib.hid (HI.out q hmem0 wr.drew F KB kd g c x m vk (PtK.upd (Upd.refl.drew (S := Non)) (fun _ _ _ f => f) q KB kd h5) hFg hg4 (by omega) (by omega) hm0)
       unfold pv at C1
       rw [hvk] at C1
       have HV1 := Lib.hid (HVL.out q x m vk)
       obtain ⟨r, Hr⟩ := nm (vPt q x m vk)
       obtain ⟨rb, rv⟩ := r
       rw [Hr.out] at C1 HRk HV1
       have hrv : rv.length = vs.length := by rw [← hvk]; exact HV1.out
       have COk := Lib.hid (fun w => COS.out (k : Int) w)
       rw [hos] at COk
       clear h5 hps hqs
       have hS : ∀ w', Upd (· = g) wr w' → w'.cell? ⟨w.heap.size, 4, none⟩ = some (.slice (some ⟨b, o, none⟩) n kc) ∧ w'.cell? ⟨w.heap.size, 1, none⟩ = some (.int .i64 op) ∧ w'.cell? ⟨b, o + k * 5, none⟩ = some (.int .i64 q.v) ∧ w'.cell? ⟨b, o + k * 5 + 1, none⟩ = some (.int .i64 q.op) ∧ w'.cell? ⟨b, o + k * 5 + 2, none⟩ = some (.int .i64 q.imm) ∧ w'.cell? ⟨b, o + k * 5 + 3, none⟩ = some (.int .i64 q.iv) ∧ w'.cell? ⟨b, o + k * 5 + 4, none⟩ = some (.slice KB q.kids.length kd) := fun w' u => ⟨cell_upd c4r u (by omega), cell_upd c1r u (by omega), cell_upd h0 u hbg, cell_upd h1 u hbg, cell_upd h2 u hbg, cell_upd h3 u hbg, cell_upd h4 u hbg⟩
       obtain ⟨w4, e4⟩ : ∃ w4 : World, w4 = wr := ⟨_, rfl⟩
       subst e4
       go_wp2_with fail
       refine wp_region_held_drew (S := fun w' => w'.cell? ⟨w.heap.size, 4, none⟩ = some (.slice (some ⟨b, o, none⟩) n kc) ∧ w'.cell? ⟨w.heap.size, 1, none⟩ = some (.int .i64 op) ∧ w'.cell? ⟨b, o + k * 5, none⟩ = some (.int .i64 q.v) ∧ w'.cell? ⟨b, o + k * 5 + 1, none⟩ = some (.int .i64 q.op) ∧ w'.cell? ⟨b, o + k * 5 + 2, none⟩ = some (.int .i64 q.imm) ∧ w'.cell? ⟨b, o + k * 5 + 3, none⟩ = some (.int .i64 q.iv) ∧ w'.cell? ⟨b, o + k * 5 + 4, none⟩ = some (.slice KB q.kids.length kd)) (by kernel_rfl) (hS _ (Upd.refl (S := (· = g))).drew) (fun hHeld => ?_)
       refine wpT 0 ?_
       try simp only [put_y]
       try simp only [Act.put]
       try simp only [put_z]
       refine wpT 1 ?_
       try simp only [put_y]
       try simp only [Act.put]
       try simp only [put_z]
       refine wpT 2 ?_
       try simp only [put_y]
       try simp only [Act.put]
       try simp only [put_z]
       refine wpT 3 ?_
       try simp only [put_y]
       try simp only [Act.put]
       try simp only [put_z]
       refine wpT 4 ?_
       try simp only [put_y]
       try simp only [Act.put]
       try simp only [put_z]
       refine wpT 5 ?_
       try simp only [put_y]
       try simp only [Act.put]
       try simp only [put_z]
       refine wpT 6 ?_
       try simp only [put_y]
       try simp only [Act.put]
       try simp only [put_z]
       refine wpT 7 ?_
       try simp only [put_y]
       try simp only [Act.put]
       try simp only [put_z]
       refine wpAnyH_takeC (i := 8) (v := ?v1) rfl (by kernel_rfl) (by kernel_rfl) (by kernel_rfl) (fun _ _ _ h => h) ⟨by rfl, ?f1, ?a1, ?r1, ?c1⟩ (by assumption) ?m1
       case r1 => intro w; go_simp; constructor <;> with_reducible rfl
       case c1 => intro W hSw; refine (COk.out W).mono ?_; rintro e w' ⟨rfl, rfl⟩; constructor <;> with_reducible rfl
       try simp only [put_y]
       try simp only [Act.put]
       try simp only [put_z]
       refine wpT 9 ?_
       try simp only [put_y]
       try simp only [Act.put]
       try simp only [put_z]
       refine wpT 10 ?_
       try simp only [put_y]
       try simp only [Act.put]
       try simp only [put_z]
       refine wpAnyH_ready (rs := [11]) (by kernel_rfl) (by simp) ?_
       refine AllReadyH.cons rfl (fun K hK => ?_) AllReadyH.nil
       go_simp
       refine C1.out.mono ?_
       rintro e w5 ⟨rfl, hg5, hu5'⟩
       have hu5 : Upd (· = g) w4 w5 := (Upd.refl.drew (S := (· = g))).trans hu5' (fun _ _ q => q)
       go_wp2_with fail
       refine hK.out _ _ ?_ (fun hHeld => ?_)
       ·
        exact hS _ hu5
       clear hK K
       try simp only [put_y]
       try simp only [Act.put]
       try simp only [put_z]
       refine wpT 12 ?_
       try simp only [put_y]
       try simp only [Act.put]
       try simp only [put_z]
       refine wpAnyH_done (by kernel_rfl) ?_ _
       cases rb with
       | true =>
        have HRn : Hid (R = vKids (p.kids.drop (k + 1)) (ss.drop (k + 1)) m rv) := by show _ = _; rw [HRk.out]; rfl
        clear C1 hS
        go_wp2_with fail
        go_roundg (n - (k + 1))
        case measure => rw [Hg.out]; omega
        case rel => exact ⟨k + 1, rv, rfl, by omega, by go_num, hg5, hrv, HRn, hu.trans hu5 (fun _ _ q => q)⟩
       | false =>
        have HRn : Hid (R = (false, rv)) := by show _ = _; rw [HRk.out]; rfl
        clear C1 hS
        go_wp2_with fail
        go_ret
        exact ⟨by rw [HRn.out]; rfl, by rw [HRn.out]; exact hg5, (hUg.trans hu (fun _ _ q => q)).trans hu5 (fun _ _ q => q)⟩
      ·
       obtain rfl : n = k := by omega
       have HRz : Hid (R = (true, vk)) := by
        show _ = _
        rw [HRk.out, List.drop_eq_nil_of_le (by rw [Hn.out]; exact Nat.le_refl _)]
        rfl
       go_wp2_with fail
       go_ret
       exact ⟨by rw [HRz.out]; rfl, by rw [HRz.out]; exact hgk, hUg.trans hu (fun _ _ q => q)⟩
  ·
   have t0 : (v != 0) = true := by simpa using hv
   have HV2 : Hid (R = if v < 1 ∨ v > vs.length ∨ op ≠ 0 ∨ imm ≠ 0 ∨ iv ≠ 0 ∨ 0 < n then (false, vs) else if vs.getD (v - 1).toNat 0 = 0 then (true, vs.set (v - 1).toNat s) else (decide (s = 0 ∨ s = vs.getD (v - 1).toNat 0), vs)) := by
    show _ = _
    rw [← HR.out, HV.out (by rw [Hv.out]; exact hv), Hv.out, Hop.out, Him.out, Hiv.out, Hn.out]
   clear HV HO HI HIM
   by_cases hbad : v < 1 ∨ v > vs.length ∨ op ≠ 0 ∨ imm ≠ 0 ∨ iv ≠ 0 ∨ 0 < n
   ·
    have HRv : Hid (R = (false, vs)) := by show _ = _; rw [HV2.out, if_pos hbad]
    rw [HRv.out]
    have Hbad := Lib.hid hbad
    obtain ⟨b1, f1⟩ : ∃ b, decide (v < 1) = b := ⟨_, rfl⟩
    obtain ⟨b2, f2⟩ : ∃ b, decide (v ≥ (vs.length : Int) + 1) = b := ⟨_, rfl⟩
    obtain ⟨b3, f3⟩ : ∃ b, (op != 0) = b := ⟨_, rfl⟩
    obtain ⟨b4, f4⟩ : ∃ b, (imm != 0) = b := ⟨_, rfl⟩
    obtain ⟨b5, f5⟩ : ∃ b, (iv != 0) = b := ⟨_, rfl⟩
    obtain ⟨b6, f6⟩ : ∃ b, ((n : Int) != 0) = b := ⟨_, rfl⟩
    have HB : Hid ((b1 || b2 || b3 || b4 || b5 || b6) = true) := by
     show _ = _
     rw [← f1, ← f2, ← f3, ← f4, ← f5, ← f6]
     simp
     omega
    clear hbad
    cases b1 with
    | true =>
     go_enter Try.func30, Try.ntmps30
     go_wp2_with fail
     go_ret
     exact ⟨rfl, hgW, hUg⟩
    | false => cases b2 with
     | true =>
      go_enter Try.func30, Try.ntmps30
      go_wp2_with fail
      go_ret
      exact ⟨rfl, hgW, hUg⟩
     | false => cases b3 with
      | true =>
       go_enter Try.func30, Try.ntmps30
       go_wp2_with fail
       go_ret
       exact ⟨rfl, hgW, hUg⟩
      | false => cases b4 with
       | true =>
        go_enter Try.func30, Try.ntmps30
        go_wp2_with fail
        go_ret
        exact ⟨rfl, hgW, hUg⟩
       | false => cases b5 with
        | true =>
         go_enter Try.func30, Try.ntmps30
         go_wp2_with fail
         go_ret
         exact ⟨rfl, hgW, hUg⟩
        | false => cases b6 with
         | true =>
          have hn0 : n ≠ 0 := by intro q; subst q; simp at f6
          have hn1 : (n == 0) = false := by simpa using hn0
          go_enter Try.func30, Try.ntmps30
          go_wp2_with fail
          go_ret
          exact ⟨rfl, hgW, hUg⟩
         | false => exact absurd HB.out (by simp)
   ·
    rw [if_neg hbad] at HV2
    obtain ⟨i, hi⟩ := Int.eq_ofNat_of_zero_le (show 0 ≤ v - 1 by omega)
    have hil : i < vs.length := by omega
    obtain rfl : op = 0 := by omega
    obtain rfl : imm = 0 := by omega
    obtain rfl : iv = 0 := by omega
    obtain rfl : n = 0 := by omega
    rw [hi, Int.toNat_natCast] at HV2
    obtain ⟨j, Hj⟩ := nm (i + 1)
    have hj1 := Hj.out
    obtain rfl : v = (j : Int) := by omega
    have t1 : decide ((j : Int) < 1) = false := decide_eq_false (by omega)
    have t2 : decide ((j : Int) ≥ (vs.length : Int) + 1) = false := decide_eq_false (by omega)
    have cg : W.cell? ⟨g, j, none⟩ = some (.int .i64 (vs.getD i 0)) := by have := VBlk.cell hgW (i := i + 1) (by simpa using hil); rw [hj1] at this; rw [this, ← hj1]; simp
    have fg := Blk.frozen hgW j
    have i0 : (0 : Int) ≤ (j : Int) := by omega
    have i1 : (j : Int) < (vs.length : Int) + 1 := by omega
    have hset : VBlk (W.setCell ⟨g, j, none⟩ (.int .i64 s)) g (0 :: vs.set i s) := by have := VBlk.set_ hgW (i + 1) s; rw [hj1] at this; rw [show (0 :: vs.set i s) = (0 :: vs).set j s by rw [← hj1]; rfl]; exact this
    have uset := updCell W g j (.int .i64 s)
    clear hj1 hi
    clear hbad HR Hv Hop Him Hiv Hn hpW
    by_cases hs0 : s = 0
    ·
     subst hs0
     have HV3 : Hid (R = (true, vs)) := by
      show _ = _
      rw [HV2.out]
      by_cases hy : vs.getD i 0 = 0
      ·
       rw [if_pos hy]
       have : vs.set i 0 = vs := by
        apply List.ext_getElem (by simp)
        intro j h1 h2
        rw [List.getElem_set]
        split
        ·
         rename_i e; subst e; rw [getD_of hil] at hy; exact hy.symm
        ·
         rfl
       rw [this]
      ·
       rw [if_neg hy]; simp
     rw [HV3.out]
     clear HV2 HV3
     go_enter Try.func30, Try.ntmps30
     go_wp2_with fail
     go_ret
     exact ⟨rfl, hgW, hUg⟩
    ·
     have ts : (s != 0) = true := by simpa using hs0
     have ts2 : (s == 0) = false := by simpa using hs0
     obtain ⟨y, Hy⟩ := nm (vs.getD i 0)
     rw [Hy.out] at HV2 cg
     by_cases hy : y = 0
     ·
      rw [if_pos hy] at HV2
      subst hy
      rw [HV2.out]
      clear HV2
      have tss : (s == s) = true := by simp
      go_enter Try.func30, Try.ntmps30
      go_wp2_with fail
      go_ret
      exact ⟨rfl, hset, hUg.trans uset (fun _ _ q => q)⟩
     ·
      rw [if_neg hy] at HV2
      have ty : (y == 0) = false := by simpa using hy
      by_cases hsy : s = y
      ·
       subst hsy
       have tt : (s == s) = true := by simp
       have HV3 : Hid (R = (true, vs)) := by show _ = _; rw [HV2.out]; simp
       rw [HV3.out]
       clear HV2 HV3
       go_enter Try.func30, Try.ntmps30
       go_wp2_with fail
       go_ret
       exact ⟨rfl, hgW, hUg⟩
      ·
       have tt : (y == s) = false := by simp; omega
       have HV3 : Hid (R = (false, vs)) := by show _ = _; rw [HV2.out]; simp [hs0, hsy]
       rw [HV3.out]
       clear HV2 HV3
       go_enter Try.func30, Try.ntmps30
       go_wp2_with fail
       go_ret
       exact ⟨rfl, hgW, hUg⟩
end Go.Proofs.Ytblkgjdhaibhgaa
