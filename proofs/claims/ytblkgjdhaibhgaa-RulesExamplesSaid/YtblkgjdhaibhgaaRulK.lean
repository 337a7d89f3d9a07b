/-
  What rules.validCond does.
-/
import Derived.Test.YtblkgjdhaibhgaaRulQ
namespace Go.Proofs.Ytblkgjdhaibhgaa
open Go.RowKit

set_option maxRecDepth 100000 in
set_option maxHeartbeats 4000000 in
theorem rlVC1_c (n : Int) (b : Nat) (ss : List Int) (A : Option Addr) (c : Nat) (F : Nat → Prop) (w : World) (hb : w.cell? ⟨b, 0, none⟩ = some (.slice A ss.length c)) (hs : Ints w F A ss) :
    Calls Try.prog 73 #[.int .i64 n, .pointer (some ⟨b, 0, none⟩)] w fun e w' => e = .returned (.bool (isValF ss n)) ∧ w = w' := by
  obtain ⟨l, Hl⟩ := nm ss.length
  obtain ⟨R, HR⟩ := nm (isValF ss n)
  have HD : Hid (R = decide (1 ≤ n ∧ n < (l : Int) ∧ ss.getD n.toNat 0 = 1)) := by show _ = _; rw [← HR.out, ← Hl.out]; rfl
  rw [Hl.out] at hb
  rw [HR.out]
  by_cases h1 : 1 ≤ n
  · have f1 : decide ((1 : Int) ≤ n) = true := decide_eq_true h1
    by_cases h2 : n < (l : Int)
    · have f2 : decide (n < (l : Int)) = true := decide_eq_true h2
      obtain ⟨j, rfl⟩ : ∃ j : Nat, n = (j : Int) := Int.eq_ofNat_of_zero_le (by omega)
      have hj : j < ss.length := by rw [Hl.out]; omega
      obtain ⟨g, o, rfl, _, _, hx⟩ := hs.at_ hj
      have HE : Hid (R = decide (ss[j] = 1)) := by show _ = _; rw [HD.out, Int.toNat_natCast, getD_of hj]; simp [h1, h2]
      generalize ss[j] = x at *
      clear h1
      go_enter Try.func73, Try.ntmps73
      go_wp2_with fail
      go_ret
      refine ⟨?_, rfl⟩
      rw [HE.out]
      show Ending.returned (Value.bool _) = _
      congr 2
    · have f2 : decide (n < (l : Int)) = false := decide_eq_false h2
      have HE : Hid (R = false) := by show _ = _; rw [HD.out]; exact decide_eq_false (fun q => h2 q.2.1)
      clear h1 h2
      go_enter Try.func73, Try.ntmps73
      go_wp2_with fail
      go_ret
      exact ⟨by rw [HE.out]; rfl, rfl⟩
  · have f1 : decide ((1 : Int) ≤ n) = false := decide_eq_false h1
    have HE : Hid (R = false) := by show _ = _; rw [HD.out]; exact decide_eq_false (fun q => h1 q.1)
    clear h1
    go_enter Try.func73, Try.ntmps73
    go_wp2_with fail
    go_ret
    exact ⟨by rw [HE.out]; rfl, rfl⟩
set_option maxRecDepth 100000 in
set_option maxHeartbeats 4000000 in
theorem rlVC2_c (n m : Int) (b : Nat) (w : World) (hb : w.cell? ⟨b, 0, none⟩ = some (.int .i64 m)) :
    Calls Try.prog 74 #[.int .i64 n, .pointer (some ⟨b, 0, none⟩)] w fun e w' => e = .returned (.bool (isImmF m n)) ∧ w = w' := by
  obtain ⟨R, HR⟩ := nm (isImmF m n)
  have HD : Hid (R = decide (1 ≤ n ∧ n ≤ m)) := by show _ = _; rw [← HR.out]; rfl
  rw [HR.out]
  by_cases h1 : 1 ≤ n
  · have f1 : decide ((1 : Int) ≤ n) = true := decide_eq_true h1
    have HE : Hid (R = decide (n ≤ m)) := by show _ = _; rw [HD.out]; simp [h1]
    clear h1
    go_enter Try.func74, Try.ntmps74
    go_wp2_with fail
    go_ret
    exact ⟨by rw [HE.out]; rfl, rfl⟩
  · have f1 : decide ((1 : Int) ≤ n) = false := decide_eq_false h1
    have HE : Hid (R = false) := by show _ = _; rw [HD.out]; exact decide_eq_false (fun q => h1 q.1)
    clear h1
    go_enter Try.func74, Try.ntmps74
    go_wp2_with fail
    go_ret
    exact ⟨by rw [HE.out]; rfl, rfl⟩

set_option maxRecDepth 100000 in
set_option maxHeartbeats 4000000 in
theorem rlValidCond_c (x : Cd) (ss : List Int) (m : Int) (A : Option Addr) (c : Nat) (F : Nat → Prop) (w : World) (hs : Ints w F A ss) :
    Calls Try.prog 48 #[.agg #[.int .i64 x.kind, .int .i64 x.a, .int .i64 x.b, .int .i64 x.n], .slice A ss.length c, .int .i64 m] w fun e w' => e = .returned (.bool (condF x ss m)) ∧ Upd Non w w' := by
  obtain ⟨k, a, b, n⟩ := x
  dsimp only
  obtain ⟨W1, HW1⟩ := nm (w.alloc (.cells #[.int .i64 k, .int .i64 a, .int .i64 b, .int .i64 n] 66))
  obtain ⟨W2, HW2⟩ := nm (W1.alloc (.cells #[.slice A ss.length c] 38))
  obtain ⟨W3, HW3⟩ := nm (W2.alloc (.cells #[.int .i64 m] 3))
  have u1 : Upd Non w W1 := by rw [← HW1.out]; exact Upd.refl.alloc _
  have u2 : Upd Non W1 W2 := by rw [← HW2.out]; exact Upd.refl.alloc _
  have u3 : Upd Non W2 W3 := by rw [← HW3.out]; exact Upd.refl.alloc _
  have s1 : W1.heap.size = w.heap.size + 1 := by rw [← HW1.out]; simp
  have s2 : W2.heap.size = w.heap.size + 2 := by rw [← HW2.out]; simp [s1]
  have b1 : Blk W1 w.heap.size 66 #[.int .i64 k, .int .i64 a, .int .i64 b, .int .i64 n] := by rw [← HW1.out]; exact Blk.new _ _ _
  have b2 : Blk W2 (w.heap.size + 1) 38 #[.slice A ss.length c] := by rw [← HW2.out, ← s1]; exact Blk.new _ _ _
  have b3 : Blk W3 (w.heap.size + 2) 3 #[.int .i64 m] := by rw [← HW3.out, ← s2]; exact Blk.new _ _ _
  have b2 := b2.upd u3 (fun f => f)
  have b1 := (b1.upd u2 (fun f => f)).upd u3 (fun f => f)
  have e1 := HW1.out
  have e2 := HW2.out
  have e3 := HW3.out
  have U : Upd Non w W3 := (u1.then_non u2).then_non u3
  have hs := hs.upd U (fun _ _ _ f => f)
  have CV := Lib.hid (fun n => rlVC1_c n (w.heap.size + 1) ss A c F W3 (b2.cell 0) hs)
  have CM := Lib.hid (fun n => rlVC2_c n m (w.heap.size + 2) W3 (b3.cell 0))
  have c0 := b1.cell 0
  have c1 := b1.cell 1
  have c2 := b1.cell 2
  have c3 := b1.cell 3
  have hmf : ∀ (fn : Fn) (first cap : Array Value) (w : World), (Instr.makeFunc fn first cap).run Try.prog w = .ok (.func fn first cap) w := fun _ _ _ _ => rfl
  obtain ⟨l, Hl⟩ := nm ss.length
  rw [Hl.out] at e2
  rw [Hl.out]
  obtain ⟨R, HR⟩ := nm (condF ⟨k, a, b, n⟩ ss m)
  rw [HR.out]
  have HR1 : Hid (R = condF ⟨k, a, b, n⟩ ss m) := HR.out.symm
  unfold condF at HR1
  dsimp only at HR1
  obtain ⟨va, Hva⟩ := nm (isValF ss a)
  obtain ⟨vb, Hvb⟩ := nm (isValF ss b)
  obtain ⟨ia, Hia⟩ := nm (isImmF m a)
  obtain ⟨ib, Hib⟩ := nm (isImmF m b)
  have CVa := Lib.hid (CV.out a)
  have CVb := Lib.hid (CV.out b)
  have CMa := Lib.hid (CM.out a)
  have CMb := Lib.hid (CM.out b)
  rw [Hva.out] at HR1 CVa
  rw [Hvb.out] at HR1 CVb
  rw [Hia.out] at HR1 CMa
  rw [Hib.out] at HR1 CMb
  clear CV CM b1 b2 b3 hs HR u1 u2 u3
  obtain ⟨tb, ftb⟩ : ∃ t, (b == 0) = t := ⟨_, rfl⟩
  obtain ⟨tn, ftn⟩ : ∃ t, (n == 0) = t := ⟨_, rfl⟩
  obtain ⟨tab, ftab⟩ : ∃ t, (a != b) = t := ⟨_, rfl⟩
  have gtb : decide (b = 0) = tb := by rw [← ftb, Bool.eq_iff_iff]; simp
  have gtn : decide (n = 0) = tn := by rw [← ftn, Bool.eq_iff_iff]; simp
  have gtab : decide (a ≠ b) = tab := by rw [← ftab, Bool.eq_iff_iff]; simp
  rw [gtb, gtn, gtab] at HR1
  clear gtb gtn gtab
  by_cases h1 : k = 1
  · subst h1
    have HE0 : Hid (R = (va && tb && tn)) := HR1.out
    go_enter Try.func48, Try.ntmps48
    go_wp2_with fail
    refine CVa.out.mono ?_
    rintro e w5 ⟨rfl, rfl⟩
    cases va with
    | false =>
      have HE : Hid (R = false) := HE0.out
      go_wp2_with fail
      go_ret
      exact ⟨by rw [HE.out]; rfl, U⟩
    | true =>
      cases tb with
      | false =>
        have HE : Hid (R = false) := HE0.out
        go_wp2_with fail
        go_ret
        exact ⟨by rw [HE.out]; rfl, U⟩
      | true =>
        have HE : Hid (R = tn) := HE0.out
        go_wp2_with fail
        go_ret
        exact ⟨by rw [HE.out]; rfl, U⟩
  · by_cases h2 : k = 2 ∨ k = 3
    · have HE0 : Hid (R = (va && tb)) := by have := HR1.out; rw [if_neg h1, if_pos h2] at this; exact this
      rcases h2 with rfl | rfl
      · go_enter Try.func48, Try.ntmps48
        go_wp2_with fail
        refine CVa.out.mono ?_
        rintro e w5 ⟨rfl, rfl⟩
        cases va with
        | false =>
          have HE : Hid (R = false) := HE0.out
          go_wp2_with fail
          go_ret
          exact ⟨by rw [HE.out]; rfl, U⟩
        | true =>
          have HE : Hid (R = tb) := HE0.out
          go_wp2_with fail
          go_ret
          exact ⟨by rw [HE.out]; rfl, U⟩
      · go_enter Try.func48, Try.ntmps48
        go_wp2_with fail
        refine CVa.out.mono ?_
        rintro e w5 ⟨rfl, rfl⟩
        cases va with
        | false =>
          have HE : Hid (R = false) := HE0.out
          go_wp2_with fail
          go_ret
          exact ⟨by rw [HE.out]; rfl, U⟩
        | true =>
          have HE : Hid (R = tb) := HE0.out
          go_wp2_with fail
          go_ret
          exact ⟨by rw [HE.out]; rfl, U⟩
    · have HR2 := HR1.out
      rw [if_neg h1, if_neg h2] at HR2
      have t1 : (k == 1) = false := by simpa using h1
      have t2 : (k == 2) = false := by simp; omega
      have t3 : (k == 3) = false := by simp; omega
      have HR1 := Lib.hid HR2
      clear HR2 h1 h2
      by_cases h4 : k = 4
      · subst h4
        have HE0 : Hid (R = (va && vb && tab && tn)) := HR1.out
        go_enter Try.func48, Try.ntmps48
        go_wp2_with fail
        refine CVa.out.mono ?_
        rintro e w5 ⟨rfl, rfl⟩
        cases va with
        | false =>
          have HE : Hid (R = false) := HE0.out
          go_wp2_with fail
          go_ret
          exact ⟨by rw [HE.out]; rfl, U⟩
        | true =>
          go_wp2_with fail
          refine CVb.out.mono ?_
          rintro e w5 ⟨rfl, rfl⟩
          cases vb with
          | false =>
            have HE : Hid (R = false) := HE0.out
            go_wp2_with fail
            go_ret
            exact ⟨by rw [HE.out]; rfl, U⟩
          | true =>
            cases tab with
            | false =>
              have HE : Hid (R = false) := HE0.out
              go_wp2_with fail
              go_ret
              exact ⟨by rw [HE.out]; rfl, U⟩
            | true =>
              have HE : Hid (R = tn) := HE0.out
              go_wp2_with fail
              go_ret
              exact ⟨by rw [HE.out]; rfl, U⟩
      · have HR2 := HR1.out
        rw [if_neg h4] at HR2
        have t4 : (k == 4) = false := by simpa using h4
        have HR1 := Lib.hid HR2
        clear HR2 h4
        by_cases h5 : k = 5
        · subst h5
          have HE0 : Hid (R = (va && ib && tn)) := HR1.out
          go_enter Try.func48, Try.ntmps48
          go_wp2_with fail
          refine CVa.out.mono ?_
          rintro e w5 ⟨rfl, rfl⟩
          cases va with
          | false =>
            have HE : Hid (R = false) := HE0.out
            go_wp2_with fail
            go_ret
            exact ⟨by rw [HE.out]; rfl, U⟩
          | true =>
            go_wp2_with fail
            refine CMb.out.mono ?_
            rintro e w5 ⟨rfl, rfl⟩
            cases ib with
            | false =>
              have HE : Hid (R = false) := HE0.out
              go_wp2_with fail
              go_ret
              exact ⟨by rw [HE.out]; rfl, U⟩
            | true =>
              have HE : Hid (R = tn) := HE0.out
              go_wp2_with fail
              go_ret
              exact ⟨by rw [HE.out]; rfl, U⟩
        · have HR2 := HR1.out
          rw [if_neg h5] at HR2
          have t5 : (k == 5) = false := by simpa using h5
          have HR1 := Lib.hid HR2
          clear HR2 h5
          by_cases h6 : k = 6
          · subst h6
            have HE0 : Hid (R = (ia && ib && tab && tn)) := HR1.out
            go_enter Try.func48, Try.ntmps48
            go_wp2_with fail
            refine CMa.out.mono ?_
            rintro e w5 ⟨rfl, rfl⟩
            cases ia with
            | false =>
              have HE : Hid (R = false) := HE0.out
              go_wp2_with fail
              go_ret
              exact ⟨by rw [HE.out]; rfl, U⟩
            | true =>
              go_wp2_with fail
              refine CMb.out.mono ?_
              rintro e w5 ⟨rfl, rfl⟩
              cases ib with
              | false =>
                have HE : Hid (R = false) := HE0.out
                go_wp2_with fail
                go_ret
                exact ⟨by rw [HE.out]; rfl, U⟩
              | true =>
                cases tab with
                | false =>
                  have HE : Hid (R = false) := HE0.out
                  go_wp2_with fail
                  go_ret
                  exact ⟨by rw [HE.out]; rfl, U⟩
                | true =>
                  have HE : Hid (R = tn) := HE0.out
                  go_wp2_with fail
                  go_ret
                  exact ⟨by rw [HE.out]; rfl, U⟩
          · have HR2 := HR1.out
            rw [if_neg h6] at HR2
            have t6 : (k == 6) = false := by simpa using h6
            have HE := Lib.hid HR2
            clear HR2 h6
            go_enter Try.func48, Try.ntmps48
            go_wp2_with fail
            go_ret
            exact ⟨by rw [HE.out]; rfl, U⟩
end Go.Proofs.Ytblkgjdhaibhgaa
