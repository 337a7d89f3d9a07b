/-
  What the reference's validCond does.
-/
import Derived.Test.YtnefhokojbkppaaRulQ
namespace Go.Proofs.Ytnefhokojbkppaa
open Go.RowKit

theorem isVal_lo {ss : List Int} {n : Int} (h : ¬ 1 ≤ n) : isValF ss n = false := decide_eq_false (fun q => h q.1)
theorem isVal_hi {ss : List Int} {n : Int} (h : ¬ n < ss.length) : isValF ss n = false := decide_eq_false (fun q => h q.2.1)
theorem isVal_at {ss : List Int} {j : Nat} (h : 1 ≤ (j : Int)) (g : (j : Int) < ss.length) : isValF ss j = (ss.getD j 0 == 1) := by
  unfold isValF
  rw [Bool.eq_iff_iff]
  simp only [Int.toNat_natCast, decide_eq_true_eq, beq_iff_eq]
  exact ⟨fun q => q.2.2, fun q => ⟨h, g, q⟩⟩

set_option maxRecDepth 100000 in
set_option maxHeartbeats 4000000 in
theorem r15validCond_c (x : Cd) (ss : List Int) (m : Int) (A : Option Addr) (c : Nat) (F : Nat → Prop) (w : World) (hs : Ints w F A ss) :
    Calls Try.prog 64 #[.agg #[.int .i64 x.kind, .int .i64 x.a, .int .i64 x.b, .int .i64 x.n], .slice A ss.length c, .int .i64 m] w fun e w' => e = .returned (.bool (condF x ss m)) ∧ Upd Non w w' := by
  obtain ⟨k, a, b, n⟩ := x
  dsimp only
  obtain ⟨W, HW⟩ := nm (w.alloc (.cells #[.int .i64 k, .int .i64 a, .int .i64 b, .int .i64 n] 81))
  have U : Upd Non w W := by rw [← HW.out]; exact Upd.refl.alloc _
  have b1 : Blk W w.heap.size 81 #[.int .i64 k, .int .i64 a, .int .i64 b, .int .i64 n] := by rw [← HW.out]; exact Blk.new _ _ _
  have e1 := HW.out
  have hs := hs.upd U (fun _ _ _ f => f)
  have c0 := b1.cell 0
  have c1 := b1.cell 1
  have c2 := b1.cell 2
  have c3 := b1.cell 3
  have HVL := Lib.hid (fun (i : Int) => @isVal_lo ss i)
  have HVH := Lib.hid (fun (i : Int) => @isVal_hi ss i)
  have HVA := Lib.hid (fun (j : Nat) => @isVal_at ss j)
  obtain ⟨l, Hl⟩ := nm ss.length
  obtain ⟨R, HR⟩ := nm (condF ⟨k, a, b, n⟩ ss m)
  rw [HR.out, Hl.out]
  have HR1 : Hid (R = condF ⟨k, a, b, n⟩ ss m) := HR.out.symm
  unfold condF at HR1
  dsimp only at HR1
  obtain ⟨va, Hva⟩ := nm (isValF ss a)
  obtain ⟨vb, Hvb⟩ := nm (isValF ss b)
  rw [Hva.out, Hvb.out] at HR1
  clear b1 HR
  obtain ⟨tb, ftb⟩ : ∃ t, (b == 0) = t := ⟨_, rfl⟩
  obtain ⟨tn, ftn⟩ : ∃ t, (n == 0) = t := ⟨_, rfl⟩
  obtain ⟨tab, ftab⟩ : ∃ t, (b != a) = t := ⟨_, rfl⟩
  obtain ⟨tab2, ftab2⟩ : ∃ t, (a != b) = t := ⟨_, rfl⟩
  obtain ⟨b1, fb1⟩ : ∃ t, decide (1 ≤ b) = t := ⟨_, rfl⟩
  obtain ⟨bm, fbm⟩ : ∃ t, decide (b ≤ m) = t := ⟨_, rfl⟩
  obtain ⟨a1, fa1⟩ : ∃ t, decide (1 ≤ a) = t := ⟨_, rfl⟩
  obtain ⟨am, fam⟩ : ∃ t, decide (a ≤ m) = t := ⟨_, rfl⟩
  obtain ⟨bl, fbl⟩ : ∃ t, decide (b < (l : Int)) = t := ⟨_, rfl⟩
  obtain ⟨al, fal⟩ : ∃ t, decide (a < (l : Int)) = t := ⟨_, rfl⟩
  have gtb : decide (b = 0) = tb := by rw [← ftb, Bool.eq_iff_iff]; simp
  have gtn : decide (n = 0) = tn := by rw [← ftn, Bool.eq_iff_iff]; simp
  have gtab : decide (a ≠ b) = tab2 := by rw [← ftab2, Bool.eq_iff_iff]; simp
  have gtab2 : tab2 = tab := by rw [← ftab, ← ftab2, Bool.eq_iff_iff]; simp; exact ⟨fun h q => h q.symm, fun h q => h q.symm⟩
  have gia : isImmF m a = (a1 && am) := by unfold isImmF; rw [← fa1, ← fam, Bool.eq_iff_iff]; simp
  have gib : isImmF m b = (b1 && bm) := by unfold isImmF; rw [← fb1, ← fbm, Bool.eq_iff_iff]; simp
  rw [gtb, gtn, gtab, gtab2, gia, gib] at HR1
  rw [gtab2] at ftab2
  have FA1 := Lib.hid fa1
  have FAL := Lib.hid fal
  have FB1 := Lib.hid fb1
  have FBL := Lib.hid fbl
  clear gtb gtn gtab gia gib gtab2
  go_enter Try.func64, Try.ntmps64
  go_upto_region 1 with fail
  go_cut [7] (fun t wx => t = .bool va ∧ W = wx)
  case first =>
    cases a1 with
    | false =>
      have hv : va = false := by rw [← Hva.out]; exact HVL.out a (of_decide_eq_false FA1.out)
      subst hv
      go_wp2_with fail
      go_meet
      exact ⟨rfl, rfl⟩
    | true =>
      cases al with
      | false =>
        have hv : va = false := by rw [← Hva.out]; exact HVH.out a (by rw [Hl.out]; exact of_decide_eq_false FAL.out)
        subst hv
        go_wp2_with fail
        go_meet
        exact ⟨rfl, rfl⟩
      | true =>
        obtain ⟨j, rfl⟩ : ∃ j : Nat, a = (j : Int) := Int.eq_ofNat_of_zero_le (by have := of_decide_eq_true FA1.out; omega)
        have hj : (j : Int) < l := of_decide_eq_true FAL.out
        have hj0 : (0 : Int) ≤ j := by omega
        have hv : va = (ss.getD j 0 == 1) := by rw [← Hva.out]; exact HVA.out j (of_decide_eq_true FA1.out) (by rw [Hl.out]; exact hj)
        obtain ⟨blk, off, rfl, _, _, z⟩ := Sl.at_ (k := j) hs (by simp [Hl.out]; omega)
        rw [show ((ss.map fun (x : Int) => Value.int .i64 x))[j]'(by simp [Hl.out]; omega) = .int .i64 (ss.getD j 0) by simp [List.getD, show j < ss.length by rw [Hl.out]; omega]] at z
        obtain ⟨y, Hy⟩ := nm (ss.getD j 0)
        rw [Hy.out] at z hv
        have fv : (y == 1) = va := hv.symm
        clear hv
        go_wp2_with fail
        go_meet
        exact ⟨rfl, rfl⟩
  case rest =>
    obtain ⟨rfl, ew⟩ := hcut
    obtain rfl : W = _ := ew
    by_cases h1 : k = 1
    · subst h1
      have HE0 : Hid (R = (va && (tb && tn))) := by show _ = _; rw [HR1.out, if_pos rfl, Bool.and_assoc]
      cases va with
      | false =>
        have HE : Hid (R = false) := by show _ = _; rw [HE0.out]; simp
        go_wp2_with fail
        go_ret
        exact ⟨by rw [HE.out]; rfl, U⟩
      | true =>
        have HE0 : Hid (R = (tb && tn)) := by show _ = _; rw [HE0.out]; simp
        cases tb with
        | false =>
          have HE : Hid (R = false) := by show _ = _; rw [HE0.out]; simp
          go_wp2_with fail
          go_ret
          exact ⟨by rw [HE.out]; rfl, U⟩
        | true =>
          have HE0 : Hid (R = (tn)) := by show _ = _; rw [HE0.out]; simp
          have HE : Hid (R = tn) := HE0.out
          go_wp2_with fail
          go_ret
          exact ⟨by rw [HE.out]; rfl, U⟩
    · by_cases h2 : k = 2 ∨ k = 3
      · have HE0 : Hid (R = (va && tb)) := by have := HR1.out; rw [if_neg h1, if_pos h2] at this; exact this
        rcases h2 with rfl | rfl
        · cases va with
          | false =>
            have HE : Hid (R = false) := by show _ = _; rw [HE0.out]; simp
            go_wp2_with fail
            go_ret
            exact ⟨by rw [HE.out]; rfl, U⟩
          | true =>
            have HE0 : Hid (R = (tb)) := by show _ = _; rw [HE0.out]; simp
            have HE : Hid (R = tb) := HE0.out
            go_wp2_with fail
            go_ret
            exact ⟨by rw [HE.out]; rfl, U⟩
        · cases va with
          | false =>
            have HE : Hid (R = false) := by show _ = _; rw [HE0.out]; simp
            go_wp2_with fail
            go_ret
            exact ⟨by rw [HE.out]; rfl, U⟩
          | true =>
            have HE0 : Hid (R = (tb)) := by show _ = _; rw [HE0.out]; simp
            have HE : Hid (R = tb) := HE0.out
            go_wp2_with fail
            go_ret
            exact ⟨by rw [HE.out]; rfl, U⟩
      · have HR2 := HR1.out
        rw [if_neg h1, if_neg h2] at HR2
        have t1 : (k == 1) = false := by simpa using h1
        have t2 : (k == 2) = false := by simp; omega
        have t3 : (k == 3) = false := by simp; omega
        have HR1 := Lib.hid HR2
        clear HR2 h1 h2
        by_cases h4 : k = 4
        · subst h4
          have HE0 : Hid (R = (va && (vb && (tab && tn)))) := by show _ = _; rw [HR1.out, if_pos rfl]; simp [Bool.and_assoc]
          cases va with
          | false =>
            have HE : Hid (R = false) := by show _ = _; rw [HE0.out]; simp
            go_wp2_with fail
            go_ret
            exact ⟨by rw [HE.out]; rfl, U⟩
          | true =>
            have HE0 : Hid (R = (vb && (tab && tn))) := by show _ = _; rw [HE0.out]; simp
            cases b1 with
            | false =>
              have hv : vb = false := by rw [← Hvb.out]; exact HVL.out b (of_decide_eq_false FB1.out)
              have HE : Hid (R = false) := by show _ = _; rw [HE0.out, hv]; simp
              clear hv
              go_wp2_with fail
              go_ret
              exact ⟨by rw [HE.out]; rfl, U⟩
            | true =>
              cases bl with
              | false =>
                have hv : vb = false := by rw [← Hvb.out]; exact HVH.out b (by rw [Hl.out]; exact of_decide_eq_false FBL.out)
                have HE : Hid (R = false) := by show _ = _; rw [HE0.out, hv]; simp
                clear hv
                go_wp2_with fail
                go_ret
                exact ⟨by rw [HE.out]; rfl, U⟩
              | true =>
                obtain ⟨j, rfl⟩ : ∃ j : Nat, b = (j : Int) := Int.eq_ofNat_of_zero_le (by have := of_decide_eq_true FB1.out; omega)
                have hj : (j : Int) < l := of_decide_eq_true FBL.out
                have hj0 : (0 : Int) ≤ j := by omega
                have hv : vb = (ss.getD j 0 == 1) := by rw [← Hvb.out]; exact HVA.out j (of_decide_eq_true FB1.out) (by rw [Hl.out]; exact hj)
                obtain ⟨blk, off, rfl, _, _, z⟩ := Sl.at_ (k := j) hs (by simp [Hl.out]; omega)
                rw [show ((ss.map fun (x : Int) => Value.int .i64 x))[j]'(by simp [Hl.out]; omega) = .int .i64 (ss.getD j 0) by simp [List.getD, show j < ss.length by rw [Hl.out]; omega]] at z
                obtain ⟨y, Hy⟩ := nm (ss.getD j 0)
                rw [Hy.out] at z hv
                have fv : (y == 1) = vb := hv.symm
                clear hv
                cases vb with
                | false =>
                  have HE : Hid (R = false) := by show _ = _; rw [HE0.out]; simp
                  go_wp2_with fail
                  go_ret
                  exact ⟨by rw [HE.out]; rfl, U⟩
                | true =>
                  have HE0 : Hid (R = (tab && tn)) := by show _ = _; rw [HE0.out]; simp
                  cases tab with
                  | false =>
                    have HE : Hid (R = false) := by show _ = _; rw [HE0.out]; simp
                    go_wp2_with fail
                    go_ret
                    exact ⟨by rw [HE.out]; rfl, U⟩
                  | true =>
                    have HE0 : Hid (R = (tn)) := by show _ = _; rw [HE0.out]; simp
                    have HE : Hid (R = tn) := HE0.out
                    go_wp2_with fail
                    go_ret
                    exact ⟨by rw [HE.out]; rfl, U⟩
        · have t4 : (k == 4) = false := by simpa using h4
          have HR2 := HR1.out
          rw [if_neg h4] at HR2
          have HR1 := Lib.hid HR2
          clear HR2 h4
          by_cases h5 : k = 5
          · subst h5
            have HE0 : Hid (R = (va && (b1 && (bm && tn)))) := by show _ = _; rw [HR1.out, if_pos rfl]; simp [Bool.and_assoc]
            cases va with
            | false =>
              have HE : Hid (R = false) := by show _ = _; rw [HE0.out]; simp
              go_wp2_with fail
              go_ret
              exact ⟨by rw [HE.out]; rfl, U⟩
            | true =>
              have HE0 : Hid (R = (b1 && (bm && tn))) := by show _ = _; rw [HE0.out]; simp
              cases b1 with
              | false =>
                have HE : Hid (R = false) := by show _ = _; rw [HE0.out]; simp
                go_wp2_with fail
                go_ret
                exact ⟨by rw [HE.out]; rfl, U⟩
              | true =>
                have HE0 : Hid (R = (bm && tn)) := by show _ = _; rw [HE0.out]; simp
                cases bm with
                | false =>
                  have HE : Hid (R = false) := by show _ = _; rw [HE0.out]; simp
                  go_wp2_with fail
                  go_ret
                  exact ⟨by rw [HE.out]; rfl, U⟩
                | true =>
                  have HE0 : Hid (R = (tn)) := by show _ = _; rw [HE0.out]; simp
                  have HE : Hid (R = tn) := HE0.out
                  go_wp2_with fail
                  go_ret
                  exact ⟨by rw [HE.out]; rfl, U⟩
          · have t5 : (k == 5) = false := by simpa using h5
            have HR2 := HR1.out
            rw [if_neg h5] at HR2
            have HR1 := Lib.hid HR2
            clear HR2 h5
            by_cases h6 : k = 6
            · subst h6
              have HE0 : Hid (R = (a1 && (am && (b1 && (bm && (tab && tn)))))) := by show _ = _; rw [HR1.out, if_pos rfl]; simp [Bool.and_assoc]
              cases a1 with
              | false =>
                have HE : Hid (R = false) := by show _ = _; rw [HE0.out]; simp
                go_wp2_with fail
                go_ret
                exact ⟨by rw [HE.out]; rfl, U⟩
              | true =>
                have HE0 : Hid (R = (am && (b1 && (bm && (tab && tn))))) := by show _ = _; rw [HE0.out]; simp
                cases am with
                | false =>
                  have HE : Hid (R = false) := by show _ = _; rw [HE0.out]; simp
                  go_wp2_with fail
                  go_ret
                  exact ⟨by rw [HE.out]; rfl, U⟩
                | true =>
                  have HE0 : Hid (R = (b1 && (bm && (tab && tn)))) := by show _ = _; rw [HE0.out]; simp
                  cases b1 with
                  | false =>
                    have HE : Hid (R = false) := by show _ = _; rw [HE0.out]; simp
                    go_wp2_with fail
                    go_ret
                    exact ⟨by rw [HE.out]; rfl, U⟩
                  | true =>
                    have HE0 : Hid (R = (bm && (tab && tn))) := by show _ = _; rw [HE0.out]; simp
                    cases bm with
                    | false =>
                      have HE : Hid (R = false) := by show _ = _; rw [HE0.out]; simp
                      go_wp2_with fail
                      go_ret
                      exact ⟨by rw [HE.out]; rfl, U⟩
                    | true =>
                      have HE0 : Hid (R = (tab && tn)) := by show _ = _; rw [HE0.out]; simp
                      cases tab with
                      | false =>
                        have HE : Hid (R = false) := by show _ = _; rw [HE0.out]; simp
                        go_wp2_with fail
                        go_ret
                        exact ⟨by rw [HE.out]; rfl, U⟩
                      | true =>
                        have HE0 : Hid (R = (tn)) := by show _ = _; rw [HE0.out]; simp
                        have HE : Hid (R = tn) := HE0.out
                        go_wp2_with fail
                        go_ret
                        exact ⟨by rw [HE.out]; rfl, U⟩
            · have t6 : (k == 6) = false := by simpa using h6
              have HE : Hid (R = false) := by show _ = _; rw [HR1.out, if_neg h6]
              clear h6
              go_wp2_with fail
              go_ret
              exact ⟨by rw [HE.out]; rfl, U⟩
end Go.Proofs.Ytnefhokojbkppaa
