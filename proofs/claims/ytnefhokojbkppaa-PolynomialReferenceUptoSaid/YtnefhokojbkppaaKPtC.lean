/-
  What keep.Reader.Pattern does: it returns the pattern that patF tells.
-/
import Derived.Test.YtnefhokojbkppaaKPt
import Derived.Test.YtnefhokojbkppaaPatC
import Derived.Test.YtnefhokojbkppaaMild
import Derived.Test.YtnefhokojbkppaaPEq
namespace Go.Proofs.Ytnefhokojbkppaa
open Go.RowKit

theorem tdiv_i64 {x k : Int} (h : I64 x) (hk : 1 ≤ k) : I64 (x.tdiv k) := by
  unfold I64 at h ⊢
  by_cases h0 : 0 ≤ x
  · have h1 := Int.tdiv_nonneg h0 (show 0 ≤ k by omega)
    have h2 := Int.tdiv_le_self k h0
    omega
  · have e : x.tdiv k = -((-x).tdiv k) := by rw [Int.neg_tdiv, Int.neg_neg]
    have h1 := Int.tdiv_nonneg (show 0 ≤ -x by omega) (show 0 ≤ k by omega)
    have h2 := Int.tdiv_le_self k (show 0 ≤ -x by omega)
    omega

theorem m2_facts (m : Nat) : ∃ r : Nat, (m : Int).tmod 2 = (r : Int) ∧ (m : Int) % 2 = (r : Int) ∧ r < 2 ∧ (r : Int) < 2 := ⟨m % 2, by rw [Int.tmod_eq_emod_of_nonneg (by omega)]; omega, by omega, by omega, by omega⟩
theorem m5_facts (m : Nat) : ∃ r : Nat, (m : Int).tmod 5 = (r : Int) ∧ (m : Int) % 5 = (r : Int) ∧ r < 5 ∧ (r : Int) < 5 := ⟨m % 5, by rw [Int.tmod_eq_emod_of_nonneg (by omega)]; omega, by omega, by omega, by omega⟩

set_option maxRecDepth 100000 in
set_option maxHeartbeats 4000000 in
theorem rdPattern_c (n : Nat) (h1 : 1 ≤ n) (h2 : n ≤ 1000) (st : Bool) : ∀ (f : Nat), f ≤ 3 → ∀ (w : World) (F : Nat → Prop) (p : Nat) (xs : List Int) (s : Int), s = 1 ∨ s = 2 → (∀ k, F k → k ≠ p) → Rd w F p xs →
    Calls Try.prog 19 #[.pointer (some ⟨p, 0, none⟩), .int .i64 s, .int .i64 (3 - f : Nat), .int .i64 n, .bool st] w fun e w' => ∃ (KA : Option Addr) (kc : Nat), e = .returned (pv (patF n st f s xs).1 KA kc) ∧ PtK w' (fun k => w.heap.size ≤ k) (patF n st f s xs).1 KA kc ∧ Rd w' F p (patF n st f s xs).2 ∧ Upd (· = p) w w' := by
  intro f
  induction f with
  | zero =>
    intro _ w F p xs s hs hF hr
    have hlt := hr.lt
    have HX := Lib.hid hr.i64
    have hFF : ∀ k, (F k ∧ k < w.heap.size) → k ≠ p := fun k h => hF k h.1
    have hrF := hr.mono (G := fun k => F k ∧ k < w.heap.size) (fun k hk h => ⟨h, hk⟩)
    obtain ⟨W, HW⟩ := nm (w.alloc (.cells #[.int .i64 0, .int .i64 0, .int .i64 0, .int .i64 0, .slice none 0 0] 24))
    have hU : Upd Non w W := by rw [← HW.out]; exact Upd.refl.alloc _
    have hb : Blk W w.heap.size 24 #[.int .i64 0, .int .i64 0, .int .i64 0, .int .i64 0, .slice none 0 0] := by rw [← HW.out]; exact Blk.new _ _ _
    have hsW : W.heap.size = w.heap.size + 1 := by rw [← HW.out]; simp
    have e0 := HW.out
    have C1 := Lib.hid (rdNext_c hFF (hrF.upd hU (fun _ _ _ f => f) (fun f => f)))
    obtain ⟨Q, HQ0⟩ := nm (patF n st 0 s xs).1
    obtain ⟨Y, HY0⟩ := nm (patF n st 0 s xs).2
    rw [HQ0.out, HY0.out]
    have HQY : Hid ((Q, Y) = (leafF s true n st (xs.headD 0), xs.tail)) := by show _ = _; rw [← HQ0.out, ← HY0.out]; rfl
    clear hr hrF HQ0 HY0
    go_enter Try.func19, Try.ntmps19
    go_wp2_with fail
    refine C1.out.mono ?_
    rintro e w2 ⟨rfl, hr2, hu2⟩
    obtain ⟨x, Hx⟩ := nm (xs.headD 0)
    rw [Hx.out] at HX HQY ⊢
    obtain ⟨z, Hz⟩ := nm (wrap64 (x.tdiv 12))
    have ez := Hz.out
    have C2 := Lib.hid (pick_c x 12 w2 (by omega) (by omega))
    have C3 := Lib.hid (pick_c z 1000 w2 (by omega) (by omega))
    have HM0 : Hid (z = x.tdiv 12) := by
      show _ = _
      rw [← ez]
      exact wrap64_of (tdiv_i64 HX.out (by omega))
    obtain ⟨k, Hk⟩ := nm (x % 12)
    have k0 : 0 ≤ k ∧ k < 12 := by rw [← Hk.out]; omega
    obtain ⟨m, hm⟩ : ∃ m : Nat, z % 1000 = (m : Int) := Int.eq_ofNat_of_zero_le (by omega)
    have hm1 : m < 1000 := by omega
    have HM : Hid (x.tdiv 12 % 1000 = (m : Int)) := by show _ = _; rw [← HM0.out]; exact hm
    rw [Hk.out] at C2
    try rw [Hk.out] at HQY
    rw [hm] at C3
    clear hm
    go_wp2_with fail
    refine C2.out.mono ?_
    rintro e w3 ⟨rfl, rfl⟩
    go_wp2_with fail
    refine C3.out.mono ?_
    rintro e w3 ⟨rfl, rfl⟩
    have hb2 := hb.upd hu2 (by omega)
    have HU2 : Upd (· = p) w w2 := (hU.mono (T := (· = p)) (fun _ _ f => f.elim)).trans hu2 (fun _ _ h => h)
    have hs2 := hu2.size
    have HS2 := Lib.hid hs2
    have HSW := Lib.hid hsW
    have HK0 := Lib.hid k0
    clear hb hU C1 C2 C3 hs2 hsW k0
    have HQ : Hid (Q = leafF s true n st x) := congrArg Prod.fst HQY.out
    have HY : Hid (Y = xs.tail) := congrArg Prod.snd HQY.out
    by_cases hs2 : s = 2
    · subst hs2
      have c0 := hb2.cell 0
      have c1 := hb2.cell 1
      have c2 := hb2.cell 2
      have c3 := hb2.cell 3
      have c4 := hb2.cell 4
      have f0 := hb2.frozen
      have HL : Hid (Q = .mk 1 0 0 0 []) := HQ.out
      go_wp2_with fail
      rw [set5_eq]
      refine bodyPost_ret (results_cell_row rfl _ _ w.heap.size 24 _ (0, 0) _ rfl (set5_blk hb2 _ _ _ _ _) Try.underlying24 rfl (by kernel_rfl)) rfl ?_
      have hsW := HSW.out
      have hs2 := HS2.out
      refine ⟨none, 0, by rw [HL.out]; rfl, by rw [HL.out]; exact PtK.leaf, ?_, HU2.trans (set5_upd _ _ _ _ _ _ _) (fun i hi e => by omega)⟩
      rw [HY.out]
      exact (hr2.upd (set5_upd _ _ _ _ _ _ _) (fun k hk q e => by have := q.2; omega) (by omega)).mono (fun k _ h => h.1)
    · have ts : (s == 2) = false := by simpa using hs2
      by_cases hk0 : k = 0
      · subst hk0
        have hdt : true = true := rfl
        have CW := Lib.hid (word_c w2 m x (by unfold I64; omega))
        have HL : Hid (Q = .mk 0 1 (wordF m x) 0 []) := by
          show _ = _
          rw [HQ.out]; unfold leafF; rw [if_neg hs2, if_pos ⟨Hk.out, hdt⟩, HM.out]
        obtain ⟨wd, Hwd⟩ := nm (wordF m x)
        rw [Hwd.out] at HL CW
        have HSS := Lib.hid hs2
        clear hs2
        go_wp2_with fail
        refine CW.out.mono ?_
        rintro e w3 ⟨rfl, hu3⟩
        have hb2 := hb2.upd hu3 (fun f => f)
        have hr2 := hr2.upd hu3 (fun _ _ _ f => f) (fun f => f)
        have HU2 := HU2.then_non hu3
        have c0 := hb2.cell 0
        have c1 := hb2.cell 1
        have c2 := hb2.cell 2
        have c3 := hb2.cell 3
        have c4 := hb2.cell 4
        have f0 := hb2.frozen
        go_wp2_with fail
        rw [set5_eq]
        refine bodyPost_ret (results_cell_row rfl _ _ w.heap.size 24 _ (0, 0) _ rfl (set5_blk hb2 _ _ _ _ _) Try.underlying24 rfl (by kernel_rfl)) rfl ?_
        have hsW := HSW.out
        have hs2 := HS2.out
        refine ⟨none, 0, by rw [HL.out]; rfl, by rw [HL.out]; exact PtK.leaf, ?_, HU2.trans (set5_upd _ _ _ _ _ _ _) (fun i hi e => by omega)⟩
        rw [HY.out]
        exact (hr2.upd (set5_upd _ _ _ _ _ _ _) (fun k hk q e => by have := q.2; omega) (by omega)).mono (fun k _ h => h.1)
      · have tk : (k == 0) = false := by simpa using hk0
        have hkd : ¬ (k = 0 ∧ true = true) := fun q => hk0 q.1
        clear hk0
        have c0 := hb2.cell 0
        have c1 := hb2.cell 1
        have c2 := hb2.cell 2
        have c3 := hb2.cell 3
        have c4 := hb2.cell 4
        have f0 := hb2.frozen
        cases st with
        | true =>
          by_cases hg : (1 : Int) < (n : Int) - 1
          · have hmn0 : 0 ≤ (m : Int) % ((n : Int) - 1) := Int.emod_nonneg _ (by omega)
            have hmn : (m : Int) % ((n : Int) - 1) < (n : Int) - 1 := Int.emod_lt_of_pos _ (by omega)
            have hv : wrap64 (2 + (m : Int) % ((n : Int) - 1)) = 2 + (m : Int) % ((n : Int) - 1) := by unfold wrap64; omega
            have HL : Hid (Q = .mk (2 + (m : Int) % ((n : Int) - 1)) 0 0 0 []) := by
              show _ = _
              rw [HQ.out]; unfold leafF; rw [if_neg hs2, if_neg (by rw [Hk.out]; exact hkd), if_pos rfl, HM.out, if_neg (by omega)]
            have HKD := Lib.hid hkd
            have HSS := Lib.hid hs2
            clear hkd hs2
            go_wp2_with fail
            rw [set5_eq]
            refine bodyPost_ret (results_cell_row rfl _ _ w.heap.size 24 _ (0, 0) _ rfl (set5_blk hb2 _ _ _ _ _) Try.underlying24 rfl (by kernel_rfl)) rfl ?_
            have hsW := HSW.out
            have hs2 := HS2.out
            refine ⟨none, 0, by rw [HL.out]; rfl, by rw [HL.out]; exact PtK.leaf, ?_, HU2.trans (set5_upd _ _ _ _ _ _ _) (fun i hi e => by omega)⟩
            rw [HY.out]
            exact (hr2.upd (set5_upd _ _ _ _ _ _ _) (fun k hk q e => by have := q.2; omega) (by omega)).mono (fun k _ h => h.1)
          · have hg2 : (n : Int) - 1 ≤ 1 := by omega
            have hv : wrap64 2 = 2 := wrap64_of (by unfold I64; omega)
            have HL : Hid (Q = .mk 2 0 0 0 []) := by
              show _ = _
              rw [HQ.out]; unfold leafF; rw [if_neg hs2, if_neg (by rw [Hk.out]; exact hkd), if_pos rfl, HM.out]
              split
              · rw [Int.emod_one]; rfl
              · rw [show (n : Int) - 1 = 1 by omega, Int.emod_one]; rfl
            have HKD := Lib.hid hkd
            have HSS := Lib.hid hs2
            clear hkd hs2 hg
            go_wp2_with fail
            rw [set5_eq]
            refine bodyPost_ret (results_cell_row rfl _ _ w.heap.size 24 _ (0, 0) _ rfl (set5_blk hb2 _ _ _ _ _) Try.underlying24 rfl (by kernel_rfl)) rfl ?_
            have hsW := HSW.out
            have hs2 := HS2.out
            refine ⟨none, 0, by rw [HL.out]; rfl, by rw [HL.out]; exact PtK.leaf, ?_, HU2.trans (set5_upd _ _ _ _ _ _ _) (fun i hi e => by omega)⟩
            rw [HY.out]
            exact (hr2.upd (set5_upd _ _ _ _ _ _ _) (fun k hk q e => by have := q.2; omega) (by omega)).mono (fun k _ h => h.1)
        | false =>
          have hmn0 : 0 ≤ (m : Int) % (n : Int) := Int.emod_nonneg _ (by omega)
          have hmn : (m : Int) % (n : Int) < n := Int.emod_lt_of_pos _ (by omega)
          have hv : wrap64 (1 + (m : Int) % (n : Int)) = 1 + (m : Int) % (n : Int) := by unfold wrap64; omega
          have HL : Hid (Q = .mk (1 + (m : Int) % (n : Int)) 0 0 0 []) := by
            show _ = _
            rw [HQ.out]; unfold leafF; rw [if_neg hs2, if_neg (by rw [Hk.out]; exact hkd), if_neg (by decide), HM.out]
          have HKD := Lib.hid hkd
          have HSS := Lib.hid hs2
          clear hkd hs2
          go_wp2_with fail
          rw [set5_eq]
          refine bodyPost_ret (results_cell_row rfl _ _ w.heap.size 24 _ (0, 0) _ rfl (set5_blk hb2 _ _ _ _ _) Try.underlying24 rfl (by kernel_rfl)) rfl ?_
          have hsW := HSW.out
          have hs2 := HS2.out
          refine ⟨none, 0, by rw [HL.out]; rfl, by rw [HL.out]; exact PtK.leaf, ?_, HU2.trans (set5_upd _ _ _ _ _ _ _) (fun i hi e => by omega)⟩
          rw [HY.out]
          exact (hr2.upd (set5_upd _ _ _ _ _ _ _) (fun k hk q e => by have := q.2; omega) (by omega)).mono (fun k _ h => h.1)
  | succ f ih =>
    intro hf3 w F p xs s hs hF hr
    have HI := Lib.hid (ih (by omega))
    have hlt := hr.lt
    have HX := Lib.hid hr.i64
    have hFF : ∀ k, (F k ∧ k < w.heap.size) → k ≠ p := fun k h => hF k h.1
    have hrF := hr.mono (G := fun k => F k ∧ k < w.heap.size) (fun k hk h => ⟨h, hk⟩)
    obtain ⟨W, HW⟩ := nm (w.alloc (.cells #[.int .i64 0, .int .i64 0, .int .i64 0, .int .i64 0, .slice none 0 0] 24))
    have hU : Upd Non w W := by rw [← HW.out]; exact Upd.refl.alloc _
    have hb : Blk W w.heap.size 24 #[.int .i64 0, .int .i64 0, .int .i64 0, .int .i64 0, .slice none 0 0] := by rw [← HW.out]; exact Blk.new _ _ _
    have hsW : W.heap.size = w.heap.size + 1 := by rw [← HW.out]; simp
    have e0 := HW.out
    have C1 := Lib.hid (rdNext_c hFF (hrF.upd hU (fun _ _ _ f => f) (fun f => f)))
    obtain ⟨Q, HQ0⟩ := nm (patF n st (f + 1) s xs).1
    obtain ⟨Y, HY0⟩ := nm (patF n st (f + 1) s xs).2
    rw [HQ0.out, HY0.out]
    have HQY : Hid ((Q, Y) = patF n st (f + 1) s xs) := by show _ = _; rw [← HQ0.out, ← HY0.out]
    obtain ⟨G, HG⟩ := nm (patF n st f)
    unfold patF at HQY
    rw [HG.out] at HQY HI
    obtain ⟨dp, Hdp⟩ := nm (3 - (f + 1))
    have hdp : dp + 1 = 3 - f := by rw [← Hdp.out]; omega
    have hd2 : dp ≤ 2 := by omega
    have HF2 : Hid (f ≤ 2) := by show f ≤ 2; omega
    have t0 : decide ((2 : Int) < (dp : Int)) = false := decide_eq_false (by omega)
    have HDP : Hid (0 < dp ↔ f < 2) := by show _ ↔ _; omega
    rw [← hdp] at HI
    rw [Hdp.out]
    clear hr hrF HQ0 HY0 ih hdp hf3
    go_enter Try.func19, Try.ntmps19
    go_wp2_with fail
    refine C1.out.mono ?_
    rintro e w2 ⟨rfl, hr2, hu2⟩
    obtain ⟨x, Hx⟩ := nm (xs.headD 0)
    rw [Hx.out] at HX HQY ⊢
    obtain ⟨z, Hz⟩ := nm (wrap64 (x.tdiv 12))
    have ez := Hz.out
    have C2 := Lib.hid (pick_c x 12 w2 (by omega) (by omega))
    have C3 := Lib.hid (pick_c z 1000 w2 (by omega) (by omega))
    have HM0 : Hid (z = x.tdiv 12) := by
      show _ = _
      rw [← ez]
      exact wrap64_of (tdiv_i64 HX.out (by omega))
    obtain ⟨k, Hk⟩ := nm (x % 12)
    have k0 : 0 ≤ k ∧ k < 12 := by rw [← Hk.out]; omega
    obtain ⟨m, hm⟩ : ∃ m : Nat, z % 1000 = (m : Int) := Int.eq_ofNat_of_zero_le (by omega)
    have hm1 : m < 1000 := by omega
    have HM : Hid (x.tdiv 12 % 1000 = (m : Int)) := by show _ = _; rw [← HM0.out]; exact hm
    rw [Hk.out] at C2
    try rw [Hk.out] at HQY
    rw [hm] at C3
    clear hm
    go_wp2_with fail
    refine C2.out.mono ?_
    rintro e w3 ⟨rfl, rfl⟩
    go_wp2_with fail
    refine C3.out.mono ?_
    rintro e w3 ⟨rfl, rfl⟩
    have hb2 := hb.upd hu2 (by omega)
    have HU2 : Upd (· = p) w w2 := (hU.mono (T := (· = p)) (fun _ _ f => f.elim)).trans hu2 (fun _ _ h => h)
    have hs2 := hu2.size
    have HS2 := Lib.hid hs2
    have HSW := Lib.hid hsW
    have HK0 := Lib.hid k0
    clear hb hU C1 C2 C3 hs2 hsW k0
    by_cases hk3 : k < 3
    · have tk3 : decide (k < 3) = true := decide_eq_true hk3
      rw [if_pos hk3] at HQY
      have HQ : Hid (Q = leafF s (decide (f < 2)) n st x) := congrArg Prod.fst HQY.out
      have HY : Hid (Y = xs.tail) := congrArg Prod.snd HQY.out
      clear HQY hk3
      by_cases hs2 : s = 2
      · subst hs2
        have c0 := hb2.cell 0
        have c1 := hb2.cell 1
        have c2 := hb2.cell 2
        have c3 := hb2.cell 3
        have c4 := hb2.cell 4
        have f0 := hb2.frozen
        have HL : Hid (Q = .mk 1 0 0 0 []) := HQ.out
        go_wp2_with fail
        rw [set5_eq]
        refine bodyPost_ret (results_cell_row rfl _ _ w.heap.size 24 _ (0, 0) _ rfl (set5_blk hb2 _ _ _ _ _) Try.underlying24 rfl (by kernel_rfl)) rfl ?_
        have hsW := HSW.out
        have hs2 := HS2.out
        refine ⟨none, 0, by rw [HL.out]; rfl, by rw [HL.out]; exact PtK.leaf, ?_, HU2.trans (set5_upd _ _ _ _ _ _ _) (fun i hi e => by omega)⟩
        rw [HY.out]
        exact (hr2.upd (set5_upd _ _ _ _ _ _ _) (fun k hk q e => by have := q.2; omega) (by omega)).mono (fun k _ h => h.1)
      · have ts : (s == 2) = false := by simpa using hs2
        by_cases hk0 : k = 0
        · subst hk0
          by_cases hf2 : f < 2
          · have hdt : decide (f < 2) = true := decide_eq_true hf2
            have td : decide (0 < dp) = true := decide_eq_true (HDP.out.2 hf2)
            clear hf2
            have CW := Lib.hid (word_c w2 m x (by unfold I64; omega))
            have HL : Hid (Q = .mk 0 1 (wordF m x) 0 []) := by
              show _ = _
              rw [HQ.out]; unfold leafF; rw [if_neg hs2, if_pos ⟨Hk.out, hdt⟩, HM.out]
            obtain ⟨wd, Hwd⟩ := nm (wordF m x)
            rw [Hwd.out] at HL CW
            have HSS := Lib.hid hs2
            clear hs2
            go_wp2_with fail
            refine CW.out.mono ?_
            rintro e w3 ⟨rfl, hu3⟩
            have hb2 := hb2.upd hu3 (fun f => f)
            have hr2 := hr2.upd hu3 (fun _ _ _ f => f) (fun f => f)
            have HU2 := HU2.then_non hu3
            have c0 := hb2.cell 0
            have c1 := hb2.cell 1
            have c2 := hb2.cell 2
            have c3 := hb2.cell 3
            have c4 := hb2.cell 4
            have f0 := hb2.frozen
            go_wp2_with fail
            rw [set5_eq]
            refine bodyPost_ret (results_cell_row rfl _ _ w.heap.size 24 _ (0, 0) _ rfl (set5_blk hb2 _ _ _ _ _) Try.underlying24 rfl (by kernel_rfl)) rfl ?_
            have hsW := HSW.out
            have hs2 := HS2.out
            refine ⟨none, 0, by rw [HL.out]; rfl, by rw [HL.out]; exact PtK.leaf, ?_, HU2.trans (set5_upd _ _ _ _ _ _ _) (fun i hi e => by omega)⟩
            rw [HY.out]
            exact (hr2.upd (set5_upd _ _ _ _ _ _ _) (fun k hk q e => by have := q.2; omega) (by omega)).mono (fun k _ h => h.1)
          · have td : decide (0 < dp) = false := decide_eq_false (fun q => hf2 (HDP.out.1 q))
            have hkd : ¬ ((0 : Int) = 0 ∧ decide (f < 2) = true) := fun q => hf2 (of_decide_eq_true q.2)
            clear hf2
            have c0 := hb2.cell 0
            have c1 := hb2.cell 1
            have c2 := hb2.cell 2
            have c3 := hb2.cell 3
            have c4 := hb2.cell 4
            have f0 := hb2.frozen
            cases st with
            | true =>
              by_cases hg : (1 : Int) < (n : Int) - 1
              · have hmn0 : 0 ≤ (m : Int) % ((n : Int) - 1) := Int.emod_nonneg _ (by omega)
                have hmn : (m : Int) % ((n : Int) - 1) < (n : Int) - 1 := Int.emod_lt_of_pos _ (by omega)
                have hv : wrap64 (2 + (m : Int) % ((n : Int) - 1)) = 2 + (m : Int) % ((n : Int) - 1) := by unfold wrap64; omega
                have HL : Hid (Q = .mk (2 + (m : Int) % ((n : Int) - 1)) 0 0 0 []) := by
                  show _ = _
                  rw [HQ.out]; unfold leafF; rw [if_neg hs2, if_neg (by rw [Hk.out]; exact hkd), if_pos rfl, HM.out, if_neg (by omega)]
                have HKD := Lib.hid hkd
                have HSS := Lib.hid hs2
                clear hkd hs2
                go_wp2_with fail
                rw [set5_eq]
                refine bodyPost_ret (results_cell_row rfl _ _ w.heap.size 24 _ (0, 0) _ rfl (set5_blk hb2 _ _ _ _ _) Try.underlying24 rfl (by kernel_rfl)) rfl ?_
                have hsW := HSW.out
                have hs2 := HS2.out
                refine ⟨none, 0, by rw [HL.out]; rfl, by rw [HL.out]; exact PtK.leaf, ?_, HU2.trans (set5_upd _ _ _ _ _ _ _) (fun i hi e => by omega)⟩
                rw [HY.out]
                exact (hr2.upd (set5_upd _ _ _ _ _ _ _) (fun k hk q e => by have := q.2; omega) (by omega)).mono (fun k _ h => h.1)
              · have hg2 : (n : Int) - 1 ≤ 1 := by omega
                have hv : wrap64 2 = 2 := wrap64_of (by unfold I64; omega)
                have HL : Hid (Q = .mk 2 0 0 0 []) := by
                  show _ = _
                  rw [HQ.out]; unfold leafF; rw [if_neg hs2, if_neg (by rw [Hk.out]; exact hkd), if_pos rfl, HM.out]
                  split
                  · rw [Int.emod_one]; rfl
                  · rw [show (n : Int) - 1 = 1 by omega, Int.emod_one]; rfl
                have HKD := Lib.hid hkd
                have HSS := Lib.hid hs2
                clear hkd hs2 hg
                go_wp2_with fail
                rw [set5_eq]
                refine bodyPost_ret (results_cell_row rfl _ _ w.heap.size 24 _ (0, 0) _ rfl (set5_blk hb2 _ _ _ _ _) Try.underlying24 rfl (by kernel_rfl)) rfl ?_
                have hsW := HSW.out
                have hs2 := HS2.out
                refine ⟨none, 0, by rw [HL.out]; rfl, by rw [HL.out]; exact PtK.leaf, ?_, HU2.trans (set5_upd _ _ _ _ _ _ _) (fun i hi e => by omega)⟩
                rw [HY.out]
                exact (hr2.upd (set5_upd _ _ _ _ _ _ _) (fun k hk q e => by have := q.2; omega) (by omega)).mono (fun k _ h => h.1)
            | false =>
              have hmn0 : 0 ≤ (m : Int) % (n : Int) := Int.emod_nonneg _ (by omega)
              have hmn : (m : Int) % (n : Int) < n := Int.emod_lt_of_pos _ (by omega)
              have hv : wrap64 (1 + (m : Int) % (n : Int)) = 1 + (m : Int) % (n : Int) := by unfold wrap64; omega
              have HL : Hid (Q = .mk (1 + (m : Int) % (n : Int)) 0 0 0 []) := by
                show _ = _
                rw [HQ.out]; unfold leafF; rw [if_neg hs2, if_neg (by rw [Hk.out]; exact hkd), if_neg (by decide), HM.out]
              have HKD := Lib.hid hkd
              have HSS := Lib.hid hs2
              clear hkd hs2
              go_wp2_with fail
              rw [set5_eq]
              refine bodyPost_ret (results_cell_row rfl _ _ w.heap.size 24 _ (0, 0) _ rfl (set5_blk hb2 _ _ _ _ _) Try.underlying24 rfl (by kernel_rfl)) rfl ?_
              have hsW := HSW.out
              have hs2 := HS2.out
              refine ⟨none, 0, by rw [HL.out]; rfl, by rw [HL.out]; exact PtK.leaf, ?_, HU2.trans (set5_upd _ _ _ _ _ _ _) (fun i hi e => by omega)⟩
              rw [HY.out]
              exact (hr2.upd (set5_upd _ _ _ _ _ _ _) (fun k hk q e => by have := q.2; omega) (by omega)).mono (fun k _ h => h.1)
        · have tk : (k == 0) = false := by simpa using hk0
          have hkd : ¬ (k = 0 ∧ decide (f < 2) = true) := fun q => hk0 q.1
          clear hk0
          have c0 := hb2.cell 0
          have c1 := hb2.cell 1
          have c2 := hb2.cell 2
          have c3 := hb2.cell 3
          have c4 := hb2.cell 4
          have f0 := hb2.frozen
          cases st with
          | true =>
            by_cases hg : (1 : Int) < (n : Int) - 1
            · have hmn0 : 0 ≤ (m : Int) % ((n : Int) - 1) := Int.emod_nonneg _ (by omega)
              have hmn : (m : Int) % ((n : Int) - 1) < (n : Int) - 1 := Int.emod_lt_of_pos _ (by omega)
              have hv : wrap64 (2 + (m : Int) % ((n : Int) - 1)) = 2 + (m : Int) % ((n : Int) - 1) := by unfold wrap64; omega
              have HL : Hid (Q = .mk (2 + (m : Int) % ((n : Int) - 1)) 0 0 0 []) := by
                show _ = _
                rw [HQ.out]; unfold leafF; rw [if_neg hs2, if_neg (by rw [Hk.out]; exact hkd), if_pos rfl, HM.out, if_neg (by omega)]
              have HKD := Lib.hid hkd
              have HSS := Lib.hid hs2
              clear hkd hs2
              go_wp2_with fail
              rw [set5_eq]
              refine bodyPost_ret (results_cell_row rfl _ _ w.heap.size 24 _ (0, 0) _ rfl (set5_blk hb2 _ _ _ _ _) Try.underlying24 rfl (by kernel_rfl)) rfl ?_
              have hsW := HSW.out
              have hs2 := HS2.out
              refine ⟨none, 0, by rw [HL.out]; rfl, by rw [HL.out]; exact PtK.leaf, ?_, HU2.trans (set5_upd _ _ _ _ _ _ _) (fun i hi e => by omega)⟩
              rw [HY.out]
              exact (hr2.upd (set5_upd _ _ _ _ _ _ _) (fun k hk q e => by have := q.2; omega) (by omega)).mono (fun k _ h => h.1)
            · have hg2 : (n : Int) - 1 ≤ 1 := by omega
              have hv : wrap64 2 = 2 := wrap64_of (by unfold I64; omega)
              have HL : Hid (Q = .mk 2 0 0 0 []) := by
                show _ = _
                rw [HQ.out]; unfold leafF; rw [if_neg hs2, if_neg (by rw [Hk.out]; exact hkd), if_pos rfl, HM.out]
                split
                · rw [Int.emod_one]; rfl
                · rw [show (n : Int) - 1 = 1 by omega, Int.emod_one]; rfl
              have HKD := Lib.hid hkd
              have HSS := Lib.hid hs2
              clear hkd hs2 hg
              go_wp2_with fail
              rw [set5_eq]
              refine bodyPost_ret (results_cell_row rfl _ _ w.heap.size 24 _ (0, 0) _ rfl (set5_blk hb2 _ _ _ _ _) Try.underlying24 rfl (by kernel_rfl)) rfl ?_
              have hsW := HSW.out
              have hs2 := HS2.out
              refine ⟨none, 0, by rw [HL.out]; rfl, by rw [HL.out]; exact PtK.leaf, ?_, HU2.trans (set5_upd _ _ _ _ _ _ _) (fun i hi e => by omega)⟩
              rw [HY.out]
              exact (hr2.upd (set5_upd _ _ _ _ _ _ _) (fun k hk q e => by have := q.2; omega) (by omega)).mono (fun k _ h => h.1)
          | false =>
            have hmn0 : 0 ≤ (m : Int) % (n : Int) := Int.emod_nonneg _ (by omega)
            have hmn : (m : Int) % (n : Int) < n := Int.emod_lt_of_pos _ (by omega)
            have hv : wrap64 (1 + (m : Int) % (n : Int)) = 1 + (m : Int) % (n : Int) := by unfold wrap64; omega
            have HL : Hid (Q = .mk (1 + (m : Int) % (n : Int)) 0 0 0 []) := by
              show _ = _
              rw [HQ.out]; unfold leafF; rw [if_neg hs2, if_neg (by rw [Hk.out]; exact hkd), if_neg (by decide), HM.out]
            have HKD := Lib.hid hkd
            have HSS := Lib.hid hs2
            clear hkd hs2
            go_wp2_with fail
            rw [set5_eq]
            refine bodyPost_ret (results_cell_row rfl _ _ w.heap.size 24 _ (0, 0) _ rfl (set5_blk hb2 _ _ _ _ _) Try.underlying24 rfl (by kernel_rfl)) rfl ?_
            have hsW := HSW.out
            have hs2 := HS2.out
            refine ⟨none, 0, by rw [HL.out]; rfl, by rw [HL.out]; exact PtK.leaf, ?_, HU2.trans (set5_upd _ _ _ _ _ _ _) (fun i hi e => by omega)⟩
            rw [HY.out]
            exact (hr2.upd (set5_upd _ _ _ _ _ _ _) (fun k hk q e => by have := q.2; omega) (by omega)).mono (fun k _ h => h.1)
    · have tk3 : decide (k < 3) = false := decide_eq_false hk3
      rw [if_neg hk3] at HQY
      clear hk3
      obtain ⟨op, Hop⟩ := nm (kOpF s st x)
      rw [Hop.out] at HQY
      have har := kOp_arity s st x
      rw [Hop.out] at har
      obtain ⟨ar, har2⟩ : ∃ ar : Nat, (arityF op).1 = (ar : Int) := Int.eq_ofNat_of_zero_le har.1
      have har3 : ar ≤ 3 := by omega
      have HAR := Lib.hid har2
      have HOPE : Hid (op = if s = 2 then 27 + (m : Int) % 3 else if st = true ∧ 9 < k then 23 else 4 + (m : Int) % 19) := by show _ = _; rw [← Hop.out]; unfold kOpF; rw [HM.out, Hk.out]
      go_upto_region 13 with fail
      obtain ⟨W4, HW4⟩ := nm (w2.alloc (.cells #[.int .i64 0, .int .i64 (4 + (m : Int) % 19), .int .i64 0, .int .i64 0, .slice none 0 0] 24))
      rw [HW4.out]
      have e4 := HW4.out
      have u4 : Upd Non w2 W4 := by rw [← e4]; exact Upd.refl.alloc _
      have hb4 : Blk W4 w2.heap.size 24 #[.int .i64 0, .int .i64 (4 + (m : Int) % 19), .int .i64 0, .int .i64 0, .slice none 0 0] := by rw [← e4]; exact Blk.new _ _ _
      have hs4 : W4.heap.size = w2.heap.size + 1 := by rw [← e4]; simp
      have hm19 : (m : Int).tmod 19 = (m : Int) % 19 := Int.tmod_eq_emod_of_nonneg (by omega)
      clear har har2
      go_upto_if 62 with fail
      go_cut [] (fun wx => Blk wx w2.heap.size 24 #[.int .i64 0, .int .i64 op, .int .i64 0, .int .i64 0, .slice none 0 0] ∧ Upd Non w2 wx)
      case first =>
        by_cases hs2 : s = 2
        · subst hs2
          obtain ⟨r, hma, hmb, hmc, hmd⟩ : ∃ r : Nat, (m : Int).tmod 3 = (r : Int) ∧ (m : Int) % 3 = (r : Int) ∧ r < 3 ∧ (r : Int) < 3 := ⟨m % 3, by rw [Int.tmod_eq_emod_of_nonneg (by omega)]; omega, by omega, by omega, by omega⟩
          have ho : op = 27 + (r : Int) := by rw [HOPE.out, if_pos rfl, hmb]
          obtain ⟨W5, HW5⟩ := nm (W4.alloc (.cells #[.int .i64 27, .int .i64 28, .int .i64 29] 3))
          have e5 := HW5.out
          have u5 : Upd Non W4 W5 := by rw [← e5]; exact Upd.refl.alloc _
          have hi5 : W5.cell? ⟨W4.heap.size, r, none⟩ = some (.int .i64 op) := by
            rw [← e5, (Blk.new W4 3 #[.int .i64 27, .int .i64 28, .int .i64 29]).cell, ho]
            have : r = 0 ∨ r = 1 ∨ r = 2 := by omega
            rcases this with rfl | rfl | rfl <;> rfl
          rw [hs4] at hi5
          have hb5 := hb4.upd u5 (fun f => f)
          have c1 := hb5.cell 1
          have f1 := hb5.frozen 1
          obtain ⟨W6, HW6⟩ := nm (W5.setCell ⟨w2.heap.size, 1, none⟩ (.int .i64 op))
          have e6 := HW6.out
          have hb6 : Blk W6 w2.heap.size 24 #[.int .i64 0, .int .i64 op, .int .i64 0, .int .i64 0, .slice none 0 0] := by rw [← e6]; exact hb5.set_ 1 (.int .i64 op)
          have u6 : Upd (· = w2.heap.size) W5 W6 := by rw [← e6]; exact updCell _ _ _ _
          have HB6 := Lib.hid hb6
          have HO := Lib.hid ho
          clear ho hb6 hb4
          go_wp2_with fail
          go_meet
          case rel => exact ⟨HB6.out, (u4.then_non u5).trans u6 (fun i hi e => by omega)⟩
        · have ts : (s == 2) = false := by simpa using hs2
          have hop2 : Hid (op = if st = true ∧ 9 < k then 23 else 4 + (m : Int) % 19) := by show _ = _; rw [HOPE.out, if_neg hs2]
          have HSS := Lib.hid hs2
          clear hs2
          cases st with
          | false =>
            have ho : Hid (op = 4 + (m : Int) % 19) := by show _ = _; rw [hop2.out, if_neg (fun q => by cases q.1)]
            have hbE : Hid (Blk W4 w2.heap.size 24 #[.int .i64 0, .int .i64 op, .int .i64 0, .int .i64 0, .slice none 0 0]) := by rw [ho.out]; exact hb4
            go_wp2_with fail
            go_meet
            case rel => exact ⟨hbE.out, u4⟩
          | true =>
            by_cases h9 : 9 < k
            · have t9 : decide (9 < k) = true := decide_eq_true h9
              have ho : op = 23 := by rw [hop2.out, if_pos ⟨rfl, h9⟩]
              have c1 := hb4.cell 1
              have f1 := hb4.frozen 1
              obtain ⟨W6, HW6⟩ := nm (W4.setCell ⟨w2.heap.size, 1, none⟩ (.int .i64 23))
              have e6 := HW6.out
              have hb6 : Blk W6 w2.heap.size 24 #[.int .i64 0, .int .i64 op, .int .i64 0, .int .i64 0, .slice none 0 0] := by rw [← e6, ho]; exact hb4.set_ 1 (.int .i64 23)
              have u6 : Upd (· = w2.heap.size) W4 W6 := by rw [← e6]; exact updCell _ _ _ _
              have HB6 := Lib.hid hb6
              have HO := Lib.hid ho
              clear ho hb6 h9
              go_wp2_with fail
              go_meet
              case rel => exact ⟨HB6.out, u4.trans u6 (fun i hi e => by omega)⟩
            · have t9 : decide (9 < k) = false := decide_eq_false h9
              have ho : Hid (op = 4 + (m : Int) % 19) := by show _ = _; rw [hop2.out, if_neg (fun q => h9 q.2)]
              have hbE : Hid (Blk W4 w2.heap.size 24 #[.int .i64 0, .int .i64 op, .int .i64 0, .int .i64 0, .slice none 0 0]) := by rw [ho.out]; exact hb4
              clear h9
              go_wp2_with fail
              go_meet
              case rel => exact ⟨hbE.out, u4⟩
      case rest =>
      obtain ⟨w5, rfl⟩ : ∃ w5 : World, w5 = wc := ⟨_, rfl⟩
      obtain ⟨hb5, u5⟩ := hcut
      clear hb4 e4 HW4 u4 hs4 hm19
      have c1 := hb5.cell 1
      have CA := Lib.hid (arity_c op w5)
      rw [HAR.out] at CA
      obtain ⟨ab, Hab⟩ := nm (arityF op).2
      rw [Hab.out] at CA
      go_wp2_with fail
      refine CA.out.mono ?_
      rintro e w6 ⟨rfl, rfl⟩
      have hss : (sortsOf op).length = ar := by rw [sortsOf_len, HAR.out]; rfl
      have hsj : ∀ j (h : j < (sortsOf op).length), (sortsOf op)[j] = operandSortF op j := sortsOf_get op
      have hso : ∀ j (h : j < (sortsOf op).length), (sortsOf op)[j] = 1 ∨ (sortsOf op)[j] = 2 := fun j h => by
        rw [hsj j h]; unfold operandSortF; split
        · exact .inr rfl
        · exact .inl rfl
      obtain ⟨ss, Hss⟩ := nm (sortsOf op)
      rw [Hss.out] at HQY hss hsj hso
      have HSL := Lib.hid hss
      have HSJ := Lib.hid hsj
      have HSO := Lib.hid hso
      obtain ⟨ys, Hys⟩ := nm xs.tail
      rw [Hys.out] at HQY hr2
      have hr6 := hr2.upd u5 (fun _ _ _ f => f) (fun f => f)
      have hsu := u5.size
      have hpw : p < w2.heap.size := hr2.lt
      have hF6 : ∀ k, (F k ∧ k < w.heap.size) → k ≠ p := hFF
      have hwrapd : IntKind.i64.wrap ((dp : Int) + 1) = ((dp + 1 : Nat) : Int) := by rw [i64w_of (by unfold I64; omega)]; omega
      have HWD := Lib.hid hwrapd
      have HKS := Lib.hid (patF_size n st f)
      rw [HG.out] at HKS
      have hks : kSize f ≤ 1000 := by
        have : f = 0 ∨ f = 1 ∨ f = 2 := by have := HF2.out; omega
        rcases this with rfl | rfl | rfl <;> decide
      have hlt5 : w2.heap.size < w5.heap.size := hb5.lt
      have hww : w.heap.size < w2.heap.size := by have := HS2.out; have := HSW.out; omega
      clear hr2 hss hsj hso hwrapd CA c1 hFF
      go_wp2_with fail
      go_loopg [17] ar (fun g i wr => ∃ (j : Nat) (A : Option Addr) (c : Nat), Hid (g = ar - j) ∧ j ≤ ar ∧ i = .int .i64 j ∧ Blk wr w2.heap.size 24 #[.int .i64 0, .int .i64 op, .int .i64 0, .int .i64 0, .slice A j c] ∧ PtO wr (fun k => w5.heap.size ≤ k) A j c (kidsG G (ss.take j) ys).1 ∧ Hid (∀ k, At A k → w5.heap.size ≤ k) ∧ Rd wr (fun k => F k ∧ k < w.heap.size) p (kidsG G (ss.take j) ys).2 ∧ Upd (fun k => k = p ∨ k = w2.heap.size) w5 wr)
      case atStart => exact ⟨0, none, 0, rfl, by omega, rfl, hb5, PtO.none_, fun k h => (At.none_ h).elim, hr6, Upd.refl⟩
      case round =>
        obtain ⟨j, A, c, Hg, hj, rfl, hbr, hpo, HA, hrr, hu⟩ := hrel
        by_cases hlt : j < ar
        · have hjs : j < ss.length := by rw [HSL.out]; exact hlt
          have HTK : Hid (ss.take (j + 1) = ss.take j ++ [ss[j]]) := take_snoc_ hjs
          have hsjE := HSJ.out j hjs
          have hsoE := HSO.out j hjs
          generalize ss[j] = sj at *
          have HKN : Hid (kidsG G (ss.take (j + 1)) ys = ((kidsG G (ss.take j) ys).1 ++ [(G sj (kidsG G (ss.take j) ys).2).1], (G sj (kidsG G (ss.take j) ys).2).2)) := by
            show _ = _; rw [HTK.out, kidsG_snoc]
          obtain ⟨kids, Hkids⟩ := nm (kidsG G (ss.take j) ys).1
          obtain ⟨zs, Hzs⟩ := nm (kidsG G (ss.take j) ys).2
          rw [Hkids.out, Hzs.out] at HKN
          rw [Hkids.out] at hpo
          rw [Hzs.out] at hrr
          have CO := Lib.hid (fun w' => operandSort_c op j w')
          rw [← hsjE] at CO
          have t1 : decide (j < ar) = true := decide_eq_true hlt
          have d1 : wr.cell? ⟨w2.heap.size, 1, none⟩ = some (.int .i64 op) := hbr.cell 1
          obtain ⟨wD, HwD⟩ := nm wr.drew
          have uD : Upd Non wr wD := by rw [← HwD.out]; exact Upd.refl.drew
          have hbD := hbr.upd uD (fun f => f)
          have hpD := hpo.upd uD (fun _ _ f => f) (fun _ _ _ f => f)
          have hrD := hrr.upd uD (fun _ _ _ f => f) (fun f => f)
          have C1 := Lib.hid (HI.out wD _ p zs sj hsoE hF6 hrD)
          obtain ⟨q, Hq⟩ := nm (G sj zs).1
          obtain ⟨zs2, Hzs2⟩ := nm (G sj zs).2
          rw [Hq.out, Hzs2.out] at C1 HKN
          have hwd := HWD.out
          clear hsjE hsoE HTK hbr hpo hrr
          go_wp2_with fail
          refine wp_region_held_drew (S := fun w' => w'.cell? ⟨w2.heap.size, 1, none⟩ = some (.int .i64 op)) (by kernel_rfl) (by rw [HwD.out]; exact cell_upd d1 uD (fun f => f)) (fun hHeld => ?_)
          rw [HwD.out] at hHeld ⊢
          refine wpAnyH_take (i := 0) (v := ?_) rfl (by kernel_rfl) (by kernel_rfl) (by kernel_rfl) (fun _ _ _ h => h) (Or.inl ⟨by rfl, ?_⟩) (by assumption) ?_
          rotate_left
          · intro w hSw; (try dsimp only at hSw); go_simp; try with_reducible rfl
          try simp only [put_y]
          try simp only [Act.put]
          try simp only [put_z]
          refine wpAnyH_take (i := 2) (v := ?_) rfl (by kernel_rfl) (by kernel_rfl) (by kernel_rfl) (fun _ _ _ h => h) (Or.inl ⟨by rfl, ?_⟩) (by assumption) ?_
          rotate_left
          · intro w hSw; (try dsimp only at hSw); go_simp; try with_reducible rfl
          try simp only [put_y]
          try simp only [Act.put]
          try simp only [put_z]
          refine wpAnyH_take (i := 3) (v := ?_) rfl (by kernel_rfl) (by kernel_rfl) (by kernel_rfl) (fun _ _ _ h => h) (Or.inl ⟨by rfl, ?_⟩) (by assumption) ?_
          rotate_left
          · intro w hSw; (try dsimp only at hSw); go_simp; try with_reducible rfl
          try simp only [put_y]
          try simp only [Act.put]
          try simp only [put_z]
          refine wpAnyH_take (i := 4) (v := ?_) rfl (by kernel_rfl) (by kernel_rfl) (by kernel_rfl) (fun _ _ _ h => h) (Or.inl ⟨by rfl, ?_⟩) (by assumption) ?_
          rotate_left
          · intro w hSw; (try dsimp only at hSw); go_simp; try with_reducible rfl
          try simp only [put_y]
          try simp only [Act.put]
          try simp only [put_z]
          refine wpAnyH_take (i := 5) (v := ?_) rfl (by kernel_rfl) (by kernel_rfl) (by kernel_rfl) (fun _ _ _ h => h) (Or.inl ⟨by rfl, ?_⟩) (by assumption) ?_
          rotate_left
          · intro w hSw; (try dsimp only at hSw); go_simp; try with_reducible rfl
          try simp only [put_y]
          try simp only [Act.put]
          try simp only [put_z]
          refine wpAnyH_takeC (i := 6) (v := ?v1) rfl (by kernel_rfl) (by kernel_rfl) (by kernel_rfl) (fun _ _ _ h => h) ⟨by rfl, ?f1, ?a1, ?r1, ?c1⟩ (by assumption) ?m1
          case r1 => intro w; go_simp; constructor <;> with_reducible rfl
          case c1 => intro W hSw; refine (CO.out W).mono ?_; rintro e w' ⟨rfl, rfl⟩; constructor <;> with_reducible rfl
          try simp only [put_y]
          try simp only [Act.put]
          try simp only [put_z]
          refine wpAnyH_take (i := 7) (v := ?_) rfl (by kernel_rfl) (by kernel_rfl) (by kernel_rfl) (fun _ _ _ h => h) (Or.inl ⟨by rfl, ?_⟩) (by assumption) ?_
          rotate_left
          · intro w hSw; (try dsimp only at hSw); go_simp; try with_reducible rfl
          try simp only [put_y]
          try simp only [Act.put]
          try simp only [put_z]
          refine wpAnyH_take (i := 8) (v := ?_) rfl (by kernel_rfl) (by kernel_rfl) (by kernel_rfl) (fun _ _ _ h => h) (Or.inl ⟨by rfl, ?_⟩) (by assumption) ?_
          rotate_left
          · intro w hSw; (try dsimp only at hSw); go_simp; try with_reducible rfl
          try simp only [put_y]
          try simp only [Act.put]
          try simp only [put_z]
          refine wpAnyH_take (i := 9) (v := ?_) rfl (by kernel_rfl) (by kernel_rfl) (by kernel_rfl) (fun _ _ _ h => h) (Or.inl ⟨by rfl, ?_⟩) (by assumption) ?_
          rotate_left
          · intro w hSw; (try dsimp only at hSw); go_simp; try with_reducible rfl
          try simp only [put_y]
          try simp only [Act.put]
          try simp only [put_z]
          refine wpAnyH_take (i := 10) (v := ?_) rfl (by kernel_rfl) (by kernel_rfl) (by kernel_rfl) (fun _ _ _ h => h) (Or.inl ⟨by rfl, ?_⟩) (by assumption) ?_
          rotate_left
          · intro w hSw; (try dsimp only at hSw); go_simp; try with_reducible rfl
          try simp only [put_y]
          try simp only [Act.put]
          try simp only [put_z]
          have hsD : ∀ k, At A k → k < wD.heap.size := fun k h => hpD.lt h
          have hgD := hbD.lt
          refine wpAnyH_ready (rs := [1, 11]) (by kernel_rfl) (by simp) ?_
          refine AllReadyH.cons rfl (fun K hK => ?_) (AllReadyH.cons rfl (fun K hK => ?_) AllReadyH.nil)
          · have d4 := hbD.cell 4
            go_simp
            refine hK.out _ _ ?_ (fun hHeld => ?_)
            · exact cell_upd d1 uD (fun f => f)
            clear hK K
            try simp only [put_y]
            try simp only [Act.put]
            try simp only [put_z]
            refine wpAnyH_ready (rs := [11]) (by kernel_rfl) (by simp) ?_
            refine AllReadyH.cons rfl (fun K hK => ?_) AllReadyH.nil
            go_simp
            refine C1.out.mono ?_
            rintro e w7 ⟨KB, kb, rfl, hq, hr7, u7⟩
            unfold pv
            go_wp2_with fail
            have d7 := cell_upd (cell_upd d1 uD (fun f => f)) u7 (by omega)
            refine hK.out _ _ ?_ (fun hHeld => ?_)
            · exact d7
            clear hK K
            try simp only [put_y]
            try simp only [Act.put]
            try simp only [put_z]
            have hb7 := hbD.upd u7 (by omega)
            have hp7 := hpD.upd u7 (fun k h e => by have := HA.out k h; omega) (fun k _ h e => by omega)
            obtain ⟨hn7, cs, ho7, hc7⟩ := id hp7
            have hs7 := u7.size
            have hsu := hu.size
            have hsd := uD.size
            have hq7 : PtK w7 (fun k => w5.heap.size ≤ k ∧ ¬ At A k) q KB kb := PtK.mono (fun k _ h => ⟨by have h : wD.heap.size ≤ k := h; omega, fun hA => by have h : wD.heap.size ≤ k := h; have := hsD _ hA; omega⟩) _ _ _ hq
            have HP7 := Lib.hid hp7
            have HC7 := Lib.hid hc7
            have HQ7 := Lib.hid hq7
            clear hp7 hc7 hq7 hpD hbD hrD hq hn7 hsD
            refine wpAnyH_ready (rs := [12]) (by kernel_rfl) (by simp) ?_
            refine AllReadyH.cons rfl (fun K hK => ?_) AllReadyH.nil
            go_simp
            refine hK.out _ _ ?_ (fun hHeld => ?_)
            · exact (hb7.alloc _).cell 1
            clear hK K
            try simp only [put_y]
            try simp only [Act.put]
            try simp only [put_z]
            refine wpAnyH_ready (rs := [13]) (by kernel_rfl) (by simp) ?_
            refine AllReadyH.cons rfl (fun K hK => ?_) AllReadyH.nil
            refine step_app rfl rfl T_pats rfl (ho7.alloc _) rfl (Sl.new _ _ _) rfl (by simp [Value.oneCell']) (by simp only [maxLen]; omega) (by omega) ?_
            intro A8 c8 w8 ho8 hu8 hat8
            have b8 := (hb7.alloc _).upd hu8 (fun h => by have := HA.out _ h; omega)
            have d8 := b8.cell 4
            have f8 := b8.frozen 4
            have e8 : w8.cell? ⟨w2.heap.size, 1, none⟩ = some (.int .i64 op) := b8.cell 1
            refine hK.out _ _ ?_ (fun hHeld => ?_)
            · exact e8
            clear hK K
            try simp only [put_y]
            try simp only [Act.put]
            try simp only [put_z]
            have b9 := b8.set_ 4 (.slice A8 (j + 1) c8)
            have e9 : (w8.setCell ⟨w2.heap.size, 4, none⟩ (.slice A8 (j + 1) c8)).cell? ⟨w2.heap.size, 1, none⟩ = some (.int .i64 op) := by rw [b9.cell]; rfl
            refine wpAnyH_take (i := 14) (v := ?_) rfl (by kernel_rfl) (by kernel_rfl) (by kernel_rfl) (fun _ _ _ h => h) (Or.inl ⟨by rfl, ?_⟩) (by assumption) ?_
            rotate_left
            · intro w hSw; (try dsimp only at hSw); go_simp; try with_reducible rfl
            try simp only [put_y]
            try simp only [Act.put]
            try simp only [put_z]
            refine wpAnyH_ready (rs := [15]) (by kernel_rfl) (by simp) ?_
            refine AllReadyH.cons rfl (fun K hK => ?_) AllReadyH.nil
            go_simp
            refine hK.out _ _ ?_ (fun hHeld => ?_)
            · exact e9
            clear hK K
            try simp only [put_y]
            try simp only [Act.put]
            try simp only [put_z]
            refine wpAnyH_done (by kernel_rfl) ?_ _
            have hA8 : ∀ k, At A8 k → w5.heap.size ≤ k := fun k h => by
              rcases hat8 k h with h | h
              · exact HA.out k h
              · rw [h]; simp; omega
            have hal : Upd Non w7 (w7.alloc (.cells #[.int .i64 q.v, .int .i64 q.op, .int .i64 q.imm, .int .i64 q.iv, .slice KB q.kids.length kb] 24)) := Upd.refl.alloc _
            have u9 : Upd (· = w2.heap.size) w8 (w8.setCell ⟨w2.heap.size, 4, none⟩ (.slice A8 (j + 1) c8)) := updCell _ _ _ _
            have hpa := HP7.out.upd hal (fun _ _ f => f) (fun _ _ _ f => f)
            have hp8 := PtO.snoc (G' := fun k => w5.heap.size ≤ k) hpa (HC7.out.mono hal (fun _ _ _ f => f) (fun _ _ h => h)) (PtK.upd hal (fun _ _ _ f => f) _ _ _ HQ7.out) ho8 hu8 hat8 (fun _ _ h => h)
            have hp9 := hp8.upd u9 (fun k h e => by have := hA8 k h; omega) (fun k _ h e => by omega)
            have hr8 := (hr7.upd hal (fun _ _ _ f => f) (fun f => f)).upd hu8 (fun k _ h hA => by have := HA.out k hA; have h2 : k < w.heap.size := h.2; omega) (fun hA => by have := HA.out _ hA; omega)
            have hr9 := hr8.upd u9 (fun k _ h e => by have h2 : k < w.heap.size := h.2; omega) (by omega)
            have HU9 : Upd (fun k => k = p ∨ k = w2.heap.size) w5 (w8.setCell ⟨w2.heap.size, 4, none⟩ (.slice A8 (j + 1) c8)) :=
              ((((hu.then_non uD).trans u7 (fun i _ h => .inl h)).then_non hal).trans hu8 (fun i hi h => by have := HA.out i h; omega)).trans u9 (fun i _ h => .inr h)
            have hb9 : Blk (w8.setCell ⟨w2.heap.size, 4, none⟩ (.slice A8 (j + 1) c8)) w2.heap.size 24 #[.int .i64 0, .int .i64 op, .int .i64 0, .int .i64 0, .slice A8 (j + 1) c8] := by simpa using b9
            have HE1 : Hid ((kidsG G (ss.take (j + 1)) ys).1 = kids ++ [q] ∧ (kidsG G (ss.take (j + 1)) ys).2 = zs2) := by
              show _ ∧ _
              rw [HKN.out]; exact ⟨rfl, rfl⟩
            have HA8 := Lib.hid hA8
            have HP9 := Lib.hid hp9
            have HR9 := Lib.hid hr9
            have HB9 := Lib.hid hb9
            clear hA8 hpa hp8 hp9 hr8 hr9 b9 b8 d8 f8 e8 e9 ho8 hu8 hat8 hb7 ho7 hb9
            go_wp2_with fail
            go_roundg (ar - (j + 1))
            case measure => rw [Hg.out]; omega
            case rel => exact ⟨j + 1, A8, c8, rfl, by omega, by go_num, HB9.out, by rw [HE1.out.1]; exact HP9.out, HA8.out, by rw [HE1.out.2]; exact HR9.out, HU9⟩
          · go_simp
            refine C1.out.mono ?_
            rintro e w7 ⟨KB, kb, rfl, hq, hr7, u7⟩
            unfold pv
            go_wp2_with fail
            have d7 := cell_upd (cell_upd d1 uD (fun f => f)) u7 (by omega)
            refine hK.out _ _ ?_ (fun hHeld => ?_)
            · exact d7
            clear hK K
            try simp only [put_y]
            try simp only [Act.put]
            try simp only [put_z]
            have d4 : w7.cell? ⟨w2.heap.size, 4, none⟩ = some (.slice A j c) := (hbD.upd u7 (by omega)).cell 4
            refine wpAnyH_takeM (fun w' => w'.cell? ⟨w2.heap.size, 4, none⟩ = some (.slice A j c)) (calm_cell _ _) [13, 14, 15] (i := 1) (v := ?_) rfl (by kernel_rfl) (by kernel_rfl) (by kernel_rfl) (by kernel_rfl) (fun _ _ _ h => h) (Or.inl ⟨by rfl, ?_⟩) (d4) (by assumption) ?_
            rotate_left
            · intro w hSw; (try dsimp only at hSw); go_simp; try with_reducible rfl
            try simp only [put_y]
            try simp only [Act.put]
            try simp only [put_z]
            clear d4
            have hb7 := hbD.upd u7 (by omega)
            have hp7 := hpD.upd u7 (fun k h e => by have := HA.out k h; omega) (fun k _ h e => by omega)
            obtain ⟨hn7, cs, ho7, hc7⟩ := id hp7
            have hs7 := u7.size
            have hsu := hu.size
            have hsd := uD.size
            have hq7 : PtK w7 (fun k => w5.heap.size ≤ k ∧ ¬ At A k) q KB kb := PtK.mono (fun k _ h => ⟨by have h : wD.heap.size ≤ k := h; omega, fun hA => by have h : wD.heap.size ≤ k := h; have := hsD _ hA; omega⟩) _ _ _ hq
            have HP7 := Lib.hid hp7
            have HC7 := Lib.hid hc7
            have HQ7 := Lib.hid hq7
            clear hp7 hc7 hq7 hpD hbD hrD hq hn7 hsD
            refine wpAnyH_ready (rs := [12]) (by kernel_rfl) (by simp) ?_
            refine AllReadyH.cons rfl (fun K hK => ?_) AllReadyH.nil
            go_simp
            refine hK.out _ _ ?_ (fun hHeld => ?_)
            · exact (hb7.alloc _).cell 1
            clear hK K
            try simp only [put_y]
            try simp only [Act.put]
            try simp only [put_z]
            refine wpAnyH_ready (rs := [13]) (by kernel_rfl) (by simp) ?_
            refine AllReadyH.cons rfl (fun K hK => ?_) AllReadyH.nil
            refine step_app rfl rfl T_pats rfl (ho7.alloc _) rfl (Sl.new _ _ _) rfl (by simp [Value.oneCell']) (by simp only [maxLen]; omega) (by omega) ?_
            intro A8 c8 w8 ho8 hu8 hat8
            have b8 := (hb7.alloc _).upd hu8 (fun h => by have := HA.out _ h; omega)
            have d8 := b8.cell 4
            have f8 := b8.frozen 4
            have e8 : w8.cell? ⟨w2.heap.size, 1, none⟩ = some (.int .i64 op) := b8.cell 1
            refine hK.out _ _ ?_ (fun hHeld => ?_)
            · exact e8
            clear hK K
            try simp only [put_y]
            try simp only [Act.put]
            try simp only [put_z]
            have b9 := b8.set_ 4 (.slice A8 (j + 1) c8)
            have e9 : (w8.setCell ⟨w2.heap.size, 4, none⟩ (.slice A8 (j + 1) c8)).cell? ⟨w2.heap.size, 1, none⟩ = some (.int .i64 op) := by rw [b9.cell]; rfl
            refine wpAnyH_take (i := 14) (v := ?_) rfl (by kernel_rfl) (by kernel_rfl) (by kernel_rfl) (fun _ _ _ h => h) (Or.inl ⟨by rfl, ?_⟩) (by assumption) ?_
            rotate_left
            · intro w hSw; (try dsimp only at hSw); go_simp; try with_reducible rfl
            try simp only [put_y]
            try simp only [Act.put]
            try simp only [put_z]
            refine wpAnyH_ready (rs := [15]) (by kernel_rfl) (by simp) ?_
            refine AllReadyH.cons rfl (fun K hK => ?_) AllReadyH.nil
            go_simp
            refine hK.out _ _ ?_ (fun hHeld => ?_)
            · exact e9
            clear hK K
            try simp only [put_y]
            try simp only [Act.put]
            try simp only [put_z]
            refine wpAnyH_done (by kernel_rfl) ?_ _
            have hA8 : ∀ k, At A8 k → w5.heap.size ≤ k := fun k h => by
              rcases hat8 k h with h | h
              · exact HA.out k h
              · rw [h]; simp; omega
            have hal : Upd Non w7 (w7.alloc (.cells #[.int .i64 q.v, .int .i64 q.op, .int .i64 q.imm, .int .i64 q.iv, .slice KB q.kids.length kb] 24)) := Upd.refl.alloc _
            have u9 : Upd (· = w2.heap.size) w8 (w8.setCell ⟨w2.heap.size, 4, none⟩ (.slice A8 (j + 1) c8)) := updCell _ _ _ _
            have hpa := HP7.out.upd hal (fun _ _ f => f) (fun _ _ _ f => f)
            have hp8 := PtO.snoc (G' := fun k => w5.heap.size ≤ k) hpa (HC7.out.mono hal (fun _ _ _ f => f) (fun _ _ h => h)) (PtK.upd hal (fun _ _ _ f => f) _ _ _ HQ7.out) ho8 hu8 hat8 (fun _ _ h => h)
            have hp9 := hp8.upd u9 (fun k h e => by have := hA8 k h; omega) (fun k _ h e => by omega)
            have hr8 := (hr7.upd hal (fun _ _ _ f => f) (fun f => f)).upd hu8 (fun k _ h hA => by have := HA.out k hA; have h2 : k < w.heap.size := h.2; omega) (fun hA => by have := HA.out _ hA; omega)
            have hr9 := hr8.upd u9 (fun k _ h e => by have h2 : k < w.heap.size := h.2; omega) (by omega)
            have HU9 : Upd (fun k => k = p ∨ k = w2.heap.size) w5 (w8.setCell ⟨w2.heap.size, 4, none⟩ (.slice A8 (j + 1) c8)) :=
              ((((hu.then_non uD).trans u7 (fun i _ h => .inl h)).then_non hal).trans hu8 (fun i hi h => by have := HA.out i h; omega)).trans u9 (fun i _ h => .inr h)
            have hb9 : Blk (w8.setCell ⟨w2.heap.size, 4, none⟩ (.slice A8 (j + 1) c8)) w2.heap.size 24 #[.int .i64 0, .int .i64 op, .int .i64 0, .int .i64 0, .slice A8 (j + 1) c8] := by simpa using b9
            have HE1 : Hid ((kidsG G (ss.take (j + 1)) ys).1 = kids ++ [q] ∧ (kidsG G (ss.take (j + 1)) ys).2 = zs2) := by
              show _ ∧ _
              rw [HKN.out]; exact ⟨rfl, rfl⟩
            have HA8 := Lib.hid hA8
            have HP9 := Lib.hid hp9
            have HR9 := Lib.hid hr9
            have HB9 := Lib.hid hb9
            clear hA8 hpa hp8 hp9 hr8 hr9 b9 b8 d8 f8 e8 e9 ho8 hu8 hat8 hb7 ho7 hb9
            go_wp2_with fail
            go_roundg (ar - (j + 1))
            case measure => rw [Hg.out]; omega
            case rel => exact ⟨j + 1, A8, c8, rfl, by omega, by go_num, HB9.out, by rw [HE1.out.1]; exact HP9.out, HA8.out, by rw [HE1.out.2]; exact HR9.out, HU9⟩
        · obtain rfl : ar = j := by omega
          have HTK : Hid (ss.take ar = ss) := List.take_of_length_le (by rw [HSL.out]; exact Nat.le_refl _)
          rw [HTK.out] at hpo hrr
          obtain ⟨imm, Himm⟩ := nm (kImmF op x).1
          obtain ⟨iv, Hiv⟩ := nm (kImmF op x).2
          obtain ⟨kids, Hkids⟩ := nm (kidsG G ss ys).1
          obtain ⟨zs, Hzs⟩ := nm (kidsG G ss ys).2
          rw [Hkids.out, Hzs.out, Himm.out, Hiv.out] at HQY
          rw [Hkids.out] at hpo
          rw [Hzs.out] at hrr
          have HIE : Hid ((imm, iv) = if hasImmF op then (if (m : Int) % 5 = 0 then (if op = 27 then 1 else 1 - (m : Int) % 2, 0) else (0, 1 + (m : Int) % 2)) else (0, 0)) := by
            show _ = _; rw [← Himm.out, ← Hiv.out, ← HM.out]; rfl
          have CH := Lib.hid (r15HasImm_c op wr)
          obtain ⟨hi, Hhi⟩ := nm (hasImmF op)
          rw [Hhi.out] at CH HIE
          have t1 : decide (ar < ar) = false := by simp
          have d1 : wr.cell? ⟨w2.heap.size, 1, none⟩ = some (.int .i64 op) := hbr.cell 1
          go_wp2_with fail
          refine CH.out.mono ?_
          rintro e w7 ⟨rfl, rfl⟩
          go_upto_if 103 with fail
          go_cut [] (fun wx => Blk wx w2.heap.size 24 #[.int .i64 0, .int .i64 op, .int .i64 imm, .int .i64 iv, .slice A ar c] ∧ Upd (· = w2.heap.size) wr wx)
          case first =>
            cases hi with
            | false =>
              have hie : imm = 0 ∧ iv = 0 := by have := HIE.out; rw [if_neg (by decide)] at this; exact ⟨congrArg Prod.fst this, congrArg Prod.snd this⟩
              obtain ⟨rfl, rfl⟩ := hie
              go_wp2_with fail
              go_meet
              case rel => exact ⟨hbr, Upd.refl⟩
            | true =>
              obtain ⟨r2, hma, hmb, hmc, hmd⟩ := m2_facts m
              obtain ⟨r5, hna, hnb, hnc, hnd⟩ := m5_facts m
              rw [hmb, hnb] at HIE
              clear hmb hnb
              have c3 := hbr.cell 3
              have f3 := hbr.frozen 3
              obtain ⟨X1, HX1⟩ := nm (wr.setCell ⟨w2.heap.size, 3, none⟩ (.int .i64 (1 + (r2 : Int))))
              have x1 := HX1.out
              have hx1 : Blk X1 w2.heap.size 24 #[.int .i64 0, .int .i64 op, .int .i64 0, .int .i64 (1 + (r2 : Int)), .slice A ar c] := by rw [← x1]; simpa using hbr.set_ 3 (.int .i64 (1 + (r2 : Int)))
              have v1 : Upd (· = w2.heap.size) wr X1 := by rw [← x1]; exact updCell _ _ _ _
              by_cases h5 : (r5 : Int) = 0
              · have t5 : ((r5 : Int) == 0) = true := by simpa using h5
                obtain ⟨X2, HX2⟩ := nm (X1.setCell ⟨w2.heap.size, 3, none⟩ (.int .i64 0))
                have x2 := HX2.out
                have hx2 : Blk X2 w2.heap.size 24 #[.int .i64 0, .int .i64 op, .int .i64 0, .int .i64 0, .slice A ar c] := by rw [← x2]; simpa using hx1.set_ 3 (.int .i64 0)
                have v2 : Upd (· = w2.heap.size) X1 X2 := by rw [← x2]; exact updCell _ _ _ _
                obtain ⟨X3, HX3⟩ := nm (X2.setCell ⟨w2.heap.size, 2, none⟩ (.int .i64 (1 - (r2 : Int))))
                have x3 := HX3.out
                have hx3 : Blk X3 w2.heap.size 24 #[.int .i64 0, .int .i64 op, .int .i64 (1 - (r2 : Int)), .int .i64 0, .slice A ar c] := by rw [← x3]; simpa using hx2.set_ 2 (.int .i64 (1 - (r2 : Int)))
                have v3 : Upd (· = w2.heap.size) X2 X3 := by rw [← x3]; exact updCell _ _ _ _
                have V3 := (v1.trans v2 (fun _ _ h => h)).trans v3 (fun _ _ h => h)
                have g1 := hx1.cell 3
                have k1 := hx1.frozen 3
                have g2 := hx2.cell 2
                have k2 := hx2.frozen 2
                have g3 := hx3.cell 1
                by_cases h27 : op = 27
                · have hie : imm = 1 ∧ iv = 0 := by have := HIE.out; rw [if_pos rfl, if_pos h5, if_pos h27] at this; exact ⟨congrArg Prod.fst this, congrArg Prod.snd this⟩
                  obtain ⟨rfl, rfl⟩ := hie
                  have t27 : (op == 27) = true := by simpa using h27
                  obtain ⟨X4, HX4⟩ := nm (X3.setCell ⟨w2.heap.size, 2, none⟩ (.int .i64 1))
                  have x4 := HX4.out
                  have hx4 : Blk X4 w2.heap.size 24 #[.int .i64 0, .int .i64 op, .int .i64 1, .int .i64 0, .slice A ar c] := by rw [← x4]; simpa using hx3.set_ 2 (.int .i64 1)
                  have v4 : Upd (· = w2.heap.size) X3 X4 := by rw [← x4]; exact updCell _ _ _ _
                  have g4 := hx3.cell 2
                  have k4 := hx3.frozen 2
                  have HX4b := Lib.hid hx4
                  clear h27 h5 hx4 hx3 hx2 hx1
                  go_wp2_with fail
                  go_meet
                  case rel => exact ⟨HX4b.out, V3.trans v4 (fun _ _ h => h)⟩
                · have hie : imm = 1 - (r2 : Int) ∧ iv = 0 := by have := HIE.out; rw [if_pos rfl, if_pos h5, if_neg h27] at this; exact ⟨congrArg Prod.fst this, congrArg Prod.snd this⟩
                  have t27 : (op == 27) = false := by simpa using h27
                  have HX3b : Hid (Blk X3 w2.heap.size 24 #[.int .i64 0, .int .i64 op, .int .i64 imm, .int .i64 iv, .slice A ar c]) := by rw [hie.1, hie.2]; exact hx3
                  clear h27 h5 hx3 hx2 hx1 hie
                  go_wp2_with fail
                  go_meet
                  case rel => exact ⟨HX3b.out, V3⟩
              · have t5 : ((r5 : Int) == 0) = false := by simpa using h5
                have hie : imm = 0 ∧ iv = 1 + (r2 : Int) := by have := HIE.out; rw [if_pos rfl, if_neg h5] at this; exact ⟨congrArg Prod.fst this, congrArg Prod.snd this⟩
                have HX1b : Hid (Blk X1 w2.heap.size 24 #[.int .i64 0, .int .i64 op, .int .i64 imm, .int .i64 iv, .slice A ar c]) := by rw [hie.1, hie.2]; exact hx1
                clear h5 hx1 hie
                go_wp2_with fail
                go_meet
                case rel => exact ⟨HX1b.out, v1⟩
          case rest =>
          obtain ⟨w8, rfl⟩ : ∃ w8 : World, w8 = wc := ⟨_, rfl⟩
          obtain ⟨hb8, u8⟩ := hcut
          have g0 := hb8.cell 0
          have g1 := hb8.cell 1
          have g2 := hb8.cell 2
          have g3 := hb8.cell 3
          have g4 := hb8.cell 4
          have hbR := ((hb2.upd u5 (fun f => f)).upd hu (by omega)).upd u8 (by omega)
          have c0 := hbR.cell 0
          have c1 := hbR.cell 1
          have c2 := hbR.cell 2
          have c3 := hbR.cell 3
          have c4 := hbR.cell 4
          have f0 := hbR.frozen
          clear d1 CH
          go_wp2_with fail
          rw [set5_eq]
          refine bodyPost_ret (results_cell_row rfl _ _ w.heap.size 24 _ (0, 0) _ rfl (set5_blk hbR _ _ _ _ _) Try.underlying24 rfl (by kernel_rfl)) rfl ?_
          have uS := set5_upd w8 w.heap.size (.int .i64 0) (.int .i64 op) (.int .i64 imm) (.int .i64 iv) (.slice A ar c)
          have hQ : Q = .mk 0 op imm iv kids := congrArg Prod.fst HQY.out
          have hY : Y = zs := congrArg Prod.snd HQY.out
          have hkl : kids.length = ar := by rw [← Hkids.out, kidsG_len, HSL.out]
          subst hQ hY
          have hp8 := (hpo.upd u8 (fun k h e => by have := HA.out k h; omega) (fun k _ h e => by omega)).upd uS (fun k h e => by have := HA.out k h; omega) (fun k _ h e => by omega)
          refine ⟨A, c, by unfold pv; rw [← hkl]; rfl, hp8.view (fun k h => by have := HA.out k h; show w.heap.size ≤ k; omega) (fun k _ h => by show w.heap.size ≤ k; omega) _ _ _ _, ?_, ?_⟩
          · exact ((hrr.upd u8 (fun k _ h e => by have h2 : k < w.heap.size := h.2; omega) (by omega)).upd uS (fun k _ h e => by have h2 : k < w.heap.size := h.2; omega) (by omega)).mono (fun k _ h => h.1)
          · exact ((((HU2.then_non u5).trans hu (fun i hi h => by rcases h with h | h; exact h; omega)).trans u8 (fun i hi h => by omega)).trans uS (fun i hi h => by omega))
end Go.Proofs.Ytnefhokojbkppaa
